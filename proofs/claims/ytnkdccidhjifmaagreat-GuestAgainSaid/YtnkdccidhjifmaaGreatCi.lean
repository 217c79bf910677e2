/- Contracts of the layer decode (seat Z): early, place. -/
import Derived.Test.YtnkdccidhjifmaaGreatCh
set_option linter.unusedVariables false
set_option linter.unusedSimpArgs false
namespace Go.Sk
open Go.RowKit Go.Proofs
variable {w0 w : World} {F : Asrt} {R : Ending → World → Prop}
def rEarly (s : Rd) (sp : Spec) : Rd :=
  if sp.kind = 2 then (rReg s (rBit s.rex 4 + s.form / 8 % 8) sp.width).2
  else if sp.kind = 1 ∧ s.form / 64 = 3 then (rReg s (rBit s.rex 1 + s.form % 8) sp.width).2
  else if sp.kind = 3 ∧ s.form / 64 = 3 then failS s else s
theorem c_early {T : TypeId} {b : Nat} {l : List Int} {s : Rd} {sp : Spec} {op : Int} (hs : s.ok) (h : S w0 w (rdA T b l s * F))
    (k : ∀ w', S w0 w' (rdA T b l (rEarly s sp) * F) → R (.returned (.tuple #[])) w') :
    Calls Tryz.prog 63 #[.pointer (some ⟨b, 0, none⟩), sp.val, .int .i64 op] w R := by
  obtain ⟨kind, width, n⟩ := sp
  refine ok_decode_reader_early _ [.int .i64 kind, .int .i64 width, .int .i64 n] _ (al h fun b1 w1 h1 => ?_)
  have hr : S w0 w1 (pts b (.cells s.cells T (0, 0)) * (slA 5 (rdA.u8s' l) s.a s.n s.c * (pts b1 (.cells #[.int .i64 kind, .int .i64 width, .int .i64 n] 144 (0, 0)) * F))) := h1.eq (by unfold rdA; ac_rfl)
  have f0 := hs.form0
  have f1 := hs.form1
  have fin : ∀ (s' : Rd) (w8 : World), S w0 w8 (rdA T b l s' * (pts b1 (.cells #[.int .i64 kind, .int .i64 width, .int .i64 n] 144 (0, 0)) * F)) → S w0 w8 (rdA T b l s' * F) := fun s' w8 h8 => (h8.eq (show _ = pts b1 _ * (rdA T b l s' * F) by ac_rfl)).drop
  refine ⟨_, ld hr rfl, ?_⟩
  by_cases c1 : kind = 2
  · simp only [rEarly, if_pos c1] at k
    refine b_t (by simpa using c1) (dr hr fun w4 h4 => ?_)
    iterate 2 refine ⟨_, ld h4 rfl, ?_⟩
    refine c_bit (by omega) (by omega) hs.rex0 hs.rex1 (rd_shut h4) ⟨_, rfl, ?_⟩
    refine ⟨_, ld h4 rfl, rfl, rfl, rfl, _, ld h4 rfl, rfl, ?_⟩
    have hb := rBit_range s.rex 4
    rw [tdiv_pos f0, wi64 (x := s.form / 8) (by omega) (by omega), tmod_pos (by omega), wi64 (by omega) (by omega)]
    exact c_register (rd_shut h4) fun w8 h8 => ⟨_, _, _, _, _, _, _, _, _, _, rfl, k w8 (fin _ w8 h8)⟩
  refine b_f (by simpa using c1) ?_
  have e64 : ∀ x : Int, x = 1 ∨ x = 3 → (IntKind.i64.wrap (s.form.tdiv 64) == 3) = decide (x = x ∧ s.form / 64 = 3) := fun x _ => by
    rw [tdiv_pos f0, wi64 (x := s.form / 64) (by omega) (by omega)]
    by_cases h : s.form / 64 = 3 <;> simp [h]
  refine ⟨fun y w' => y = decide (kind = 1 ∧ s.form / 64 = 3) ∧ w' = w1, ⟨_, ld hr rfl, ?_⟩, ?_⟩
  · by_cases c : kind = 1
    · exact b_t (by simpa using c) ⟨_, ld hr rfl, by rw [c]; exact e64 _ (by omega), rfl⟩
    · exact b_f (by simpa using c) ⟨by simp [c], rfl⟩
  rintro _ y w2 ⟨rfl, rfl⟩
  by_cases c2 : kind = 1 ∧ s.form / 64 = 3
  · simp only [rEarly, if_neg c1, if_pos c2] at k
    refine dt c2 (dr hr fun w4 h4 => ?_)
    iterate 2 refine ⟨_, ld h4 rfl, ?_⟩
    refine c_bit (by omega) (by omega) hs.rex0 hs.rex1 (rd_shut h4) ⟨_, rfl, ?_⟩
    refine ⟨_, ld h4 rfl, rfl, rfl, _, ld h4 rfl, rfl, ?_⟩
    have hb := rBit_range s.rex 1
    rw [tmod_pos f0, wi64 (by omega) (by omega)]
    exact c_register (rd_shut h4) fun w8 h8 => ⟨_, _, _, _, _, _, _, _, _, _, rfl, k w8 (fin _ w8 h8)⟩
  refine df c2 ?_
  refine ⟨fun y w' => y = decide (kind = 3 ∧ s.form / 64 = 3) ∧ w' = w2, ⟨_, ld hr rfl, ?_⟩, ?_⟩
  · by_cases c : kind = 3
    · exact b_t (by simpa using c) ⟨_, ld hr rfl, by rw [c]; exact e64 _ (by omega), rfl⟩
    · exact b_f (by simpa using c) ⟨by simp [c], rfl⟩
  rintro _ y w3 ⟨rfl, rfl⟩
  by_cases c3 : kind = 3 ∧ s.form / 64 = 3
  · simp only [rEarly, if_neg c1, if_neg c2, if_pos c3] at k
    exact dt c3 (c_fail (rd_shut hr) fun w8 h8 => ⟨rfl, k w8 (fin _ w8 h8)⟩)
  · simp only [rEarly, if_neg c1, if_neg c2, if_neg c3] at k
    exact df c3 (k w3 (fin _ w3 (rd_shut hr)))
def plO (s : Rd) : Opn := ⟨3, 0, 0, 0, rBit s.rex 1 + s.form % 8, -1, 1, 0, false, s.seg⟩
def plO2 (l : List Int) (s : Rd) : Opn :=
  if rBit s.rex 2 + (nxt l s).1 / 8 % 8 ≠ 4 then { plO s with base := rBit s.rex 1 + (nxt l s).1 % 8, index := rBit s.rex 2 + (nxt l s).1 / 8 % 8, scale := [1, 2, 4, 8].getD ((nxt l s).1 / 64).toNat 0 }
  else { plO s with base := rBit s.rex 1 + (nxt l s).1 % 8 }
def plA (l : List Int) (s : Rd) : Int × Opn × Rd :=
  if s.form % 8 = 4 then (if (nxt l s).1 % 8 = 5 ∧ s.form / 64 = 0 then (4, { plO2 l s with base := -1 }, (nxt l s).2) else ([0, 1, 4].getD (s.form / 64).toNat 0, plO2 l s, (nxt l s).2))
  else ([0, 1, 4].getD (s.form / 64).toNat 0, plO s, s)
theorem nxt_rex (l : List Int) (s : Rd) : (nxt l s).2.rex = s.rex := by
  unfold nxt
  split
  · rfl
  · split <;> rfl
def plB (s : Rd) (p : Int × Opn × Rd) : Int × Opn × Rd := if s.form % 8 = 5 ∧ s.form / 64 = 0 then (4, { p.2.1 with base := -1, next := true }, p.2.2) else p
def plC (l : List Int) (p : Int × Opn × Rd) : Int × Opn × Rd := if p.1 > 0 then (p.1, { p.2.1 with disp := (rNum l p.2.2 p.1.toNat).1 }, (rNum l p.2.2 p.1.toNat).2) else p
def rPlace (l : List Int) (s : Rd) : Rd := { (plC l (plB s (plA l s))).2.2 with mem := (plC l (plB s (plA l s))).2.1 }
theorem putMem (s : Rd) (o : Opn) : putC s.cells 7 o.cells = ({ s with mem := o } : Rd).cells := by kernel_rfl
theorem c_numberI {T : TypeId} {b : Nat} {l : List Int} {s : Rd} {n : Int} (hl : isBytes l) (hn : 0 ≤ n ∧ n ≤ 8) (h : S w0 w (rdA T b l s * F)) (k : ∀ w', S w0 w' (rdA T b l (rNum l s n.toNat).2 * F) → R (.returned (.int .i64 (rNum l s n.toNat).1)) w') :
    Calls Tryz.prog 95 #[.pointer (some ⟨b, 0, none⟩), .int .i64 n] w R := by
  obtain ⟨m, rfl⟩ : ∃ m : Nat, n = m := ⟨n.toNat, by omega⟩
  exact c_number hl (by omega) h k
theorem plA_le {l : List Int} {s : Rd} (hs : s.ok) (hf : s.form < 192) : (plA l s).1 ≤ 8 := by
  have f0 := hs.form0
  have e : s.form / 64 = 0 ∨ s.form / 64 = 1 ∨ s.form / 64 = 2 := by omega
  have h3 : [0, 1, 4].getD (s.form / 64).toNat 0 ≤ (8 : Int) := by rcases e with e | e | e <;> rw [e] <;> decide
  unfold plA
  simp only []
  split
  · split
    · simp
    · exact h3
  · exact h3
theorem plB_le {l : List Int} {s : Rd} (hs : s.ok) (hf : s.form < 192) : (plB s (plA l s)).1 ≤ 8 := by
  unfold plB
  split
  · simp
  · exact plA_le hs hf
theorem c_place {T : TypeId} {b : Nat} {l : List Int} {s : Rd} (hl : isBytes l) (hs : s.ok) (hf : s.form < 192) (h : S w0 w (rdA T b l s * F))
    (k : ∀ w', S w0 w' (rdA T b l (rPlace l s) * F) → R (.returned (.tuple #[])) w') :
    Calls Tryz.prog 64 #[.pointer (some ⟨b, 0, none⟩)] w R := by
  refine ok_decode_reader_place _ ?_
  have f0 := hs.form0
  have f1 := hs.form1
  have hb := rBit_range s.rex 1
  have h0 := rd_open h
  iterate 2 refine ⟨_, ld h0 rfl, ?_⟩
  refine dr h0 fun w1 h1 => ⟨_, ld h1 rfl, ?_, ?_⟩
  · refine c_bit (by omega) (by omega) hs.rex0 hs.rex1 (rd_shut h1) ⟨_, rfl, _, ld h1 rfl, rfl, ?_⟩
    refine al (rd_shut h1) fun b9 w2 h2' => ?_
    have h2 : S w0 w2 (pts b9 _ * (pts b (.cells s.cells T (0, 0)) * (slA 5 (rdA.u8s' l) s.a s.n s.c * F))) := h2'.eq (by unfold rdA; rw [mulA])
    refine ⟨_, ld h2 rfl, rfl, rfl, rfl, ?_⟩
    rw [tmod_pos f0, wi64 (x := rBit s.rex 1 + s.form % 8) (by omega) (by omega)]
    refine sww h2' rfl rfl trivial fun w5 h5 => ?_
    refine al h5 fun b6 w6 h6 => ?_
    rw [tdiv_pos f0, wi64 (x := s.form / 64) (by omega) (by omega)]
    refine ix_mk (by omega) (by omega) ⟨[0, 1, 4].getD (s.form / 64).toNat 0, ld h6 ?_, ?_⟩
    · have : s.form / 64 = 0 ∨ s.form / 64 = 1 ∨ s.form / 64 = 2 := by omega
      rcases this with e | e | e <;> rw [e] <;> rfl
    have h7 : S w0 w6 (rdA T b l s * (pts b9 (.cells (plO s).cells.toArray 61 (0, 0)) * F)) := h6.drop.eq (mulL _ _ _)
    refine ⟨fun y w' => y = (plA l s).1 ∧ S w0 w' (rdA T b l (plA l s).2.2 * (pts b9 (.cells (plA l s).2.1.cells.toArray 61 (0, 0)) * F)), ?_, ?_⟩
    · by_cases c4 : s.form % 8 = 4
      · refine b_t (by simpa using c4) (c_next hl h7 fun w8 h8 => ⟨_, rfl, ?_⟩)
        have hx := nxt_range hl s
        have er : (nxt l s).2.rex = s.rex := nxt_rex l s
        have hb2 := rBit_range s.rex 2
        refine c_bit (by omega) (by omega) (by rw [er]; exact hs.rex0) (by rw [er]; exact hs.rex1) h8 ⟨_, rfl, ?_⟩
        rw [er, tmod_pos hx.1, wi64 (x := rBit s.rex 1 + (nxt l s).1 % 8) (by omega) (by omega)]
        refine st h8 rfl fun w9 h9 => ?_
        refine c_bit (by omega) (by omega) (by rw [er]; exact hs.rex0) (by rw [er]; exact hs.rex1) h9 ⟨_, rfl, ?_⟩
        rw [er, tdiv_pos hx.1, wi64 (x := (nxt l s).1 / 8) (by omega) (by omega), tmod_pos (x := (nxt l s).1 / 8) (by omega), wi64 (x := rBit s.rex 2 + (nxt l s).1 / 8 % 8) (by omega) (by omega)]
        refine ⟨fun w' => S w0 w' (rdA T b l (nxt l s).2 * (pts b9 (.cells (plO2 l s).cells.toArray 61 (0, 0)) * F)), ?_, ?_⟩
        · by_cases c5 : rBit s.rex 2 + (nxt l s).1 / 8 % 8 ≠ 4
          · refine b_t (by simpa using c5) (st h9 rfl fun w10 h10 => al h10 fun b11 w11 h11 => ?_)
            rw [tdiv_pos hx.1, wi64 (x := (nxt l s).1 / 64) (by omega) (by omega)]
            refine ix_mk (by omega) (by omega) ⟨[1, 2, 4, 8].getD ((nxt l s).1 / 64).toNat 0, ld h11 ?_, st h11 rfl fun w12 h12 => ?_⟩
            · have : (nxt l s).1 / 64 = 0 ∨ (nxt l s).1 / 64 = 1 ∨ (nxt l s).1 / 64 = 2 ∨ (nxt l s).1 / 64 = 3 := by omega
              rcases this with e | e | e | e <;> rw [e] <;> rfl
            · rw [plO2, if_pos c5]
              exact h12.drop
          · rw [plO2, if_neg c5]
            exact b_f (by simpa using c5) h9
        · rintro _ w10 h10
          refine jAnd ?_
          rw [plA, if_pos c4]
          by_cases c6 : (nxt l s).1 % 8 = 5 ∧ s.form / 64 = 0
          · rw [if_pos c6]
            refine b_t (by simpa using c6) (st h10 rfl fun w11 h11 => ⟨rfl, ?_⟩)
            exact h11
          · rw [if_neg c6]
            exact b_f (by simpa using c6) ⟨rfl, h10⟩
      · rw [plA, if_neg c4]
        exact b_f (by simpa using c4) ⟨rfl, h7⟩
    rintro _ y w7 ⟨rfl, h8⟩
    refine jAnd ?_
    refine ⟨fun y w' => y = (plB s (plA l s)).1 ∧ S w0 w' (rdA T b l (plB s (plA l s)).2.2 * (pts b9 (.cells (plB s (plA l s)).2.1.cells.toArray 61 (0, 0)) * F)), ?_, ?_⟩
    · by_cases c : s.form % 8 = 5 ∧ s.form / 64 = 0
      · rw [plB, if_pos c]
        refine b_t (by simpa using c) (st h8 rfl fun w8 h8 => st h8 rfl fun w8 h8 => ⟨rfl, ?_⟩)
        exact h8
      · rw [plB, if_neg c]
        exact b_f (by simpa using c) ⟨rfl, h8⟩
    rintro _ y w8 ⟨rfl, h9⟩
    refine ⟨fun w' => S w0 w' (rdA T b l (plC l (plB s (plA l s))).2.2 * (pts b9 (.cells (plC l (plB s (plA l s))).2.1.cells.toArray 61 (0, 0)) * F)), ?_, ?_⟩
    · by_cases c : (plB s (plA l s)).1 > 0
      · rw [plC, if_pos c]
        refine dt c (c_numberI hl ⟨by omega, plB_le hs hf⟩ h9 fun w9 h10 => ⟨_, rfl, st h10 rfl fun w10 h11 => ?_⟩)
        exact h11
      · rw [plC, if_neg c]
        exact df c h9
    rintro _ w9 h10
    have h11 := rd_open h10
    iterate 10 refine ⟨_, ld h11 rfl, ?_⟩
    refine sw h11 rfl rfl trivial fun w10 h12 => k w10 ?_
    have e0 : (rPlace l s).cells = putC (plC l (plB s (plA l s))).2.2.cells 7 (plC l (plB s (plA l s))).2.1.cells := (putMem _ _).symm
    have h13 : S w0 w10 (pts b (.cells (rPlace l s).cells T (0, 0)) * (slA 5 (rdA.u8s' l) (rPlace l s).a (rPlace l s).n (rPlace l s).c * (pts b9 (.cells (plC l (plB s (plA l s))).2.1.cells.toArray 61 (0, 0)) * F))) := by
      rw [e0]
      exact h12
    have h14 := (rd_shut (s := rPlace l s) h13).eq (mulL _ _ _)
    exact h14.drop
  · refine al (rd_shut h1) fun b9 w2 h2' => ?_
    have h2 : S w0 w2 (pts b9 _ * (pts b (.cells s.cells T (0, 0)) * (slA 5 (rdA.u8s' l) s.a s.n s.c * F))) := h2'.eq (by unfold rdA; rw [mulA])
    refine ⟨_, ld h2 rfl, rfl, ?_⟩
    refine c_bit (by omega) (by omega) hs.rex0 hs.rex1 (h2'.eq (mulL _ _ _)) ⟨_, rfl, _, ld h2 rfl, rfl, ?_⟩
    rw [tmod_pos f0, wi64 (x := rBit s.rex 1 + s.form % 8) (by omega) (by omega)]
    refine sww h2' rfl rfl trivial fun w5 h5 => ?_
    refine al h5 fun b6 w6 h6 => ?_
    rw [tdiv_pos f0, wi64 (x := s.form / 64) (by omega) (by omega)]
    refine ix_mk (by omega) (by omega) ⟨[0, 1, 4].getD (s.form / 64).toNat 0, ld h6 ?_, ?_⟩
    · have : s.form / 64 = 0 ∨ s.form / 64 = 1 ∨ s.form / 64 = 2 := by omega
      rcases this with e | e | e <;> rw [e] <;> rfl
    have h7 : S w0 w6 (rdA T b l s * (pts b9 (.cells (plO s).cells.toArray 61 (0, 0)) * F)) := h6.drop.eq (mulL _ _ _)
    refine ⟨fun y w' => y = (plA l s).1 ∧ S w0 w' (rdA T b l (plA l s).2.2 * (pts b9 (.cells (plA l s).2.1.cells.toArray 61 (0, 0)) * F)), ?_, ?_⟩
    · by_cases c4 : s.form % 8 = 4
      · refine b_t (by simpa using c4) (c_next hl h7 fun w8 h8 => ⟨_, rfl, ?_⟩)
        have hx := nxt_range hl s
        have er : (nxt l s).2.rex = s.rex := nxt_rex l s
        have hb2 := rBit_range s.rex 2
        refine c_bit (by omega) (by omega) (by rw [er]; exact hs.rex0) (by rw [er]; exact hs.rex1) h8 ⟨_, rfl, ?_⟩
        rw [er, tmod_pos hx.1, wi64 (x := rBit s.rex 1 + (nxt l s).1 % 8) (by omega) (by omega)]
        refine st h8 rfl fun w9 h9 => ?_
        refine c_bit (by omega) (by omega) (by rw [er]; exact hs.rex0) (by rw [er]; exact hs.rex1) h9 ⟨_, rfl, ?_⟩
        rw [er, tdiv_pos hx.1, wi64 (x := (nxt l s).1 / 8) (by omega) (by omega), tmod_pos (x := (nxt l s).1 / 8) (by omega), wi64 (x := rBit s.rex 2 + (nxt l s).1 / 8 % 8) (by omega) (by omega)]
        refine ⟨fun w' => S w0 w' (rdA T b l (nxt l s).2 * (pts b9 (.cells (plO2 l s).cells.toArray 61 (0, 0)) * F)), ?_, ?_⟩
        · by_cases c5 : rBit s.rex 2 + (nxt l s).1 / 8 % 8 ≠ 4
          · refine b_t (by simpa using c5) (st h9 rfl fun w10 h10 => al h10 fun b11 w11 h11 => ?_)
            rw [tdiv_pos hx.1, wi64 (x := (nxt l s).1 / 64) (by omega) (by omega)]
            refine ix_mk (by omega) (by omega) ⟨[1, 2, 4, 8].getD ((nxt l s).1 / 64).toNat 0, ld h11 ?_, st h11 rfl fun w12 h12 => ?_⟩
            · have : (nxt l s).1 / 64 = 0 ∨ (nxt l s).1 / 64 = 1 ∨ (nxt l s).1 / 64 = 2 ∨ (nxt l s).1 / 64 = 3 := by omega
              rcases this with e | e | e | e <;> rw [e] <;> rfl
            · rw [plO2, if_pos c5]
              exact h12.drop
          · rw [plO2, if_neg c5]
            exact b_f (by simpa using c5) h9
        · rintro _ w10 h10
          refine jAnd ?_
          rw [plA, if_pos c4]
          by_cases c6 : (nxt l s).1 % 8 = 5 ∧ s.form / 64 = 0
          · rw [if_pos c6]
            refine b_t (by simpa using c6) (st h10 rfl fun w11 h11 => ⟨rfl, ?_⟩)
            exact h11
          · rw [if_neg c6]
            exact b_f (by simpa using c6) ⟨rfl, h10⟩
      · rw [plA, if_neg c4]
        exact b_f (by simpa using c4) ⟨rfl, h7⟩
    rintro _ y w7 ⟨rfl, h8⟩
    refine jAnd ?_
    refine ⟨fun y w' => y = (plB s (plA l s)).1 ∧ S w0 w' (rdA T b l (plB s (plA l s)).2.2 * (pts b9 (.cells (plB s (plA l s)).2.1.cells.toArray 61 (0, 0)) * F)), ?_, ?_⟩
    · by_cases c : s.form % 8 = 5 ∧ s.form / 64 = 0
      · rw [plB, if_pos c]
        refine b_t (by simpa using c) (st h8 rfl fun w8 h8 => st h8 rfl fun w8 h8 => ⟨rfl, ?_⟩)
        exact h8
      · rw [plB, if_neg c]
        exact b_f (by simpa using c) ⟨rfl, h8⟩
    rintro _ y w8 ⟨rfl, h9⟩
    refine ⟨fun w' => S w0 w' (rdA T b l (plC l (plB s (plA l s))).2.2 * (pts b9 (.cells (plC l (plB s (plA l s))).2.1.cells.toArray 61 (0, 0)) * F)), ?_, ?_⟩
    · by_cases c : (plB s (plA l s)).1 > 0
      · rw [plC, if_pos c]
        refine dt c (c_numberI hl ⟨by omega, plB_le hs hf⟩ h9 fun w9 h10 => ⟨_, rfl, st h10 rfl fun w10 h11 => ?_⟩)
        exact h11
      · rw [plC, if_neg c]
        exact df c h9
    rintro _ w9 h10
    have h11 := rd_open h10
    iterate 10 refine ⟨_, ld h11 rfl, ?_⟩
    refine sw h11 rfl rfl trivial fun w10 h12 => k w10 ?_
    have e0 : (rPlace l s).cells = putC (plC l (plB s (plA l s))).2.2.cells 7 (plC l (plB s (plA l s))).2.1.cells := (putMem _ _).symm
    have h13 : S w0 w10 (pts b (.cells (rPlace l s).cells T (0, 0)) * (slA 5 (rdA.u8s' l) (rPlace l s).a (rPlace l s).n (rPlace l s).c * (pts b9 (.cells (plC l (plB s (plA l s))).2.1.cells.toArray 61 (0, 0)) * F))) := by
      rw [e0]
      exact h12
    have h14 := (rd_shut (s := rPlace l s) h13).eq (mulL _ _ _)
    exact h14.drop
end Go.Sk
