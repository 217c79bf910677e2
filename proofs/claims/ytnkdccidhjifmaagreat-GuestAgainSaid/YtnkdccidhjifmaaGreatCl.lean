/- Contracts of the layer decode (seat Z): Decode. -/
import Derived.Test.YtnkdccidhjifmaaGreatCk
import Derived.Test.YtnkdccidhjifmaaGreatCv
set_option linter.unusedVariables false
set_option linter.unusedSimpArgs false
namespace Go.Sk
open Go.RowKit Go.Proofs
variable {w0 w : World} {F : Asrt} {R : Ending → World → Prop}
def spOk (s : Spec) : Bool := decide (0 ≤ s.n) && decide (s.n ≤ 8)
def rowOk (x : Row × Bool) : Bool := spOk x.1.a && spOk x.1.b && spOk x.1.c
def rowsOk : Bool := (List.range 256).all fun op => (List.range 8).all fun d => rowOk (rRowOf true op 4 d) && rowOk (rRowOf true op 8 d) && rowOk (rRowOf false op 4 d) && rowOk (rRowOf false op 8 d)
theorem rowsOk_true : rowsOk = true := by kernel_rfl
theorem rowOf_ok {two : Bool} {op x d : Int} (h0 : 0 ≤ op) (h1 : op < 256) (d0 : 0 ≤ d) (d1 : d < 8) (hx : x = 4 ∨ x = 8) : rowOk (rRowOf two op x d) = true := by
  have h := rowsOk_true
  unfold rowsOk at h
  rw [List.all_eq_true] at h
  have h2 := h op.toNat (by rw [List.mem_range]; omega)
  rw [List.all_eq_true] at h2
  have h3 := h2 d.toNat (by rw [List.mem_range]; omega)
  have e1 : ((op.toNat : Nat) : Int) = op := by omega
  have e2 : ((d.toNat : Nat) : Int) = d := by omega
  rw [e1, e2] at h3
  simp only [Bool.and_eq_true] at h3
  obtain ⟨⟨⟨h4, h5⟩, h6⟩, h7⟩ := h3
  rcases hx with rfl | rfl <;> cases two <;> assumption
theorem anyFrom_ok {two : Bool} {op x : Int} (h0 : 0 ≤ op) (h1 : op < 256) (hx : x = 4 ∨ x = 8) : ∀ (n d : Nat), d + n ≤ 8 → rowOk (rAnyFrom two op x n d) = true
  | 0, d, _ => rfl
  | n + 1, d, h => by
    rw [rAnyFrom]
    split
    · exact rowOf_ok (two := two) (d := d) h0 h1 (by omega) (by omega) hx
    · exact anyFrom_ok h0 h1 hx n (d + 1) (by omega)
theorem any_ok {two : Bool} {op x : Int} (h0 : 0 ≤ op) (h1 : op < 256) (hx : x = 4 ∨ x = 8) : rowOk (rAny two op x) = true := anyFrom_ok h0 h1 hx 8 0 (by omega)
theorem rowOk_n {x : Row × Bool} (h : rowOk x = true) : (0 ≤ x.1.a.n ∧ x.1.a.n ≤ 8) ∧ (0 ≤ x.1.b.n ∧ x.1.b.n ≤ 8) ∧ (0 ≤ x.1.c.n ∧ x.1.c.n ≤ 8) := by
  simpa [rowOk, spOk, and_assoc] using h
theorem dW_or (s : Rd) : dW s = 4 ∨ dW s = 8 := by unfold dW; split <;> simp
theorem dLow_keep (op : Int) (x : Row) (s : Rd) : Keep s (dLow op x s) := by
  unfold dLow
  split
  · exact rReg_keep _ _ _
  · exact .refl s
theorem dMark_keep (y : Row × Bool) (s : Rd) : Keep s (dMark y s) := by
  unfold dMark
  split
  · exact failS_keep s
  · exact .refl s
theorem dRow_keep (op : Int) (two : Bool) (wd : Int) (x : Row) (s : Rd) : Keep s (dRow op two wd x s).2 := by
  unfold dRow
  split
  · exact ((dMark_keep _ s).trans (rEarly_keep _ _)).trans (rEarly_keep _ _)
  · exact .refl s
theorem dPl_keep (l : List Int) (s : Rd) : Keep s (dPl l s) := by
  unfold dPl
  split
  · exact rPlace_keep l s
  · exact .refl s
theorem dForm_src (l : List Int) (op : Int) (two : Bool) (wd : Int) (x : Row) (s : Rd) : (dForm l op two wd x s).2.a = s.a ∧ (dForm l op two wd x s).2.n = s.n ∧ (dForm l op two wd x s).2.c = s.c := by
  unfold dForm
  split
  · have k1 := nxt_keep l s
    have k2 := (dRow_keep op two wd x (dPut l s)).trans (dPl_keep l _)
    exact ⟨k2.a.trans k1.a, k2.n.trans k1.n, k2.c.trans k1.c⟩
  · exact ⟨rfl, rfl, rfl⟩
theorem dPut_ok {l : List Int} (hl : isBytes l) {s : Rd} (h : s.ok) : (dPut l s).ok := by
  have k1 := nxt_keep l s
  have k2 := nxt_range hl s
  exact ⟨by show 0 ≤ (nxt l s).2.rex; rw [k1.rex]; exact h.1, by show (nxt l s).2.rex < 16; rw [k1.rex]; exact h.2, k2.1, k2.2⟩
theorem dForm_ok {l : List Int} (hl : isBytes l) {op : Int} {two : Bool} {wd : Int} {x : Row} {s : Rd} (h : s.ok) : (dForm l op two wd x s).2.ok := by
  unfold dForm
  split
  · exact ((dRow_keep op two wd x (dPut l s)).trans (dPl_keep l _)).ok (dPut_ok hl h)
  · exact h
theorem dRow_n {op : Int} {two : Bool} {wd : Int} {x : Row} {s : Rd} (h0 : 0 ≤ op) (h1 : op < 256) (hw : wd = 4 ∨ wd = 8) (hs : s.ok) (hx : rowOk (x, true) = true) : rowOk ((dRow op two wd x s).1, true) = true := by
  have f0 := hs.form0
  unfold dRow
  split
  · exact rowOf_ok h0 h1 (by omega) (by omega) hw
  · exact hx
theorem dForm_n {l : List Int} (hl : isBytes l) {op : Int} {two : Bool} {wd : Int} {x : Row} {s : Rd} (h0 : 0 ≤ op) (h1 : op < 256) (hw : wd = 4 ∨ wd = 8) (hs : s.ok) (hx : rowOk (x, true) = true) : rowOk ((dForm l op two wd x s).1, true) = true := by
  unfold dForm
  split
  · exact dRow_n h0 h1 hw (dPut_ok hl hs) hx
  · exact hx
theorem nt {b : Bool} (h : ¬ b = true) : b = false := by cases b; rfl; exact absurd rfl h
theorem nq_bad {o : Option Int} {K : Bool → Prop} (h : K o.isNone) : nilQ (badV o) K := by
  cases o with
  | none => exact nq_nil h
  | some e => exact nq_if h
theorem c_Decode {a : Option Addr} {n c : Nat} {l : List Int} (hl : isBytes l) (h : S w0 w (slA 5 (u8s l) a n c * F))
    (k : ∀ w', S w0 w' (slA 5 (u8s l) a n c * F) → R (.returned (.tuple #[(rDecode l).2.val, badV (rDecode l).1])) w') : Calls Tryz.prog 38 #[.slice a n c] w R := by
  obtain rfl : n = l.length := by have := slA_len h; simpa [u8s_length] using this
  obtain ⟨s0, hs0⟩ : ∃ s : Rd, s = ⟨a, l.length, c, 0, none, false, false, 0, 0, o0⟩ := ⟨_, rfl⟩
  have e0 : rDecode l = rDecodeAt l s0 := by rw [hs0]; exact (rDecode_re l d0 ⟨a, l.length, c, 0, none, false, false, 0, 0, o0⟩).symm
  rw [e0] at k
  clear e0
  have r0 : 0 ≤ s0.rex ∧ s0.rex < 16 := by rw [hs0]; simp
  have f0 : s0.form = 0 := by rw [hs0]
  refine ok_decode_Decode _ _ _ (al h fun b1 w1 h1 => al h1 fun b3 w3 h3 => ?_)
  have hr : S w0 w3 (rdA 139 b3 l s0 * (pts b1 (.cells i0.cells.toArray 65 (0, 0)) * F)) := h3.eq (by
    rw [hs0]
    unfold rdA
    show pts b3 _ * (pts b1 _ * (slA 5 (u8s l) a l.length c * F)) = pts b3 _ * slA 5 (u8s l) a l.length c * (pts b1 _ * F)
    ac_rfl)
  have fin : ∀ (s : Rd) (w' : World) (X : Asrt), s.a = a → s.n = l.length → s.c = c → S w0 w' (X * (rdA 139 b3 l s * F)) → S w0 w' (slA 5 (u8s l) a l.length c * F) := fun s w' X ha hn hc h' =>
    (h'.eq (show _ = (X * pts b3 (.cells s.cells 139 (0, 0))) * (slA 5 (u8s l) a l.length c * F) by
      unfold rdA
      rw [ha, hn, hc]
      show X * (pts b3 _ * slA 5 (u8s l) a l.length c * F) = _
      ac_rfl)).drop
  refine ⟨fun y w' => y = (decide (0 < l.length) && l.getD 0 0 == 243) ∧ w' = w3, ?_, ?_⟩
  · by_cases hn : 0 < l.length
    · obtain ⟨ad, ha, hc⟩ := slA_rd' (h3.eq (show _ = slA 5 (u8s l) a l.length c * (pts b3 _ * (pts b1 _ * F)) by ac_rfl)) (i := 0) (by rw [u8s_length]; exact hn)
      rw [ha]
      refine dt (by omega) (ix_mk (by omega) (by omega) ⟨l.getD 0 0, ?_, ?_, rfl⟩)
      · have e : ad.add 0 = ad := by unfold Addr.add; split <;> simp_all
        rw [← e, hc]
        simp [u8s, List.getD_eq_getElem?_getD, hn]
      · simp [hn]
    · exact df (by omega) ⟨by simp [hn], rfl⟩
  rintro _ y w4 ⟨rfl, rfl⟩
  unfold rDecodeAt at k
  have e9 : ∀ (s : Rd) (w' : World) (b : Nat) (X : Asrt), S w0 w' (pts b (.cells i0.cells.toArray 65 (0, 0)) * X) → True := fun _ _ _ _ _ => trivial
  by_cases c1 : (decide (0 < l.length) && l.getD 0 0 == 243) = true
  · simp only [if_pos c1] at k
    refine b_t c1 (st (rd_open hr) rfl fun w5 h5 => ?_)
    have h5' := rd_shut (s := { s0 with at' := 1 }) h5
    have kp : Keep { s0 with at' := 1 } (rNop l { s0 with at' := 1 }) := nopFrom_keep l 3 0 _
    have ka : (rNop l { s0 with at' := 1 }).a = a := by rw [kp.a, hs0]
    have kn : (rNop l { s0 with at' := 1 }).n = l.length := by rw [kp.n, hs0]
    have kc : (rNop l { s0 with at' := 1 }).c = c := by rw [kp.c, hs0]
    refine c_nop hl h5' fun w6 h6 => ⟨_, _, _, _, _, _, _, _, _, _, _, _, _, _, _, _, _, _, _, _, _, _, _, _, _, _, _, _, _, _, _, _, _, rfl, ?_⟩
    generalize rNop l { s0 with at' := 1 } = s1 at k ka kn kc h6
    refine al h6 fun b4 w7 h7 => sww h7 rfl rfl trivial fun w8 h8' => ?_
    have h8 : S w0 w8 (pts b1 (.cells i0.cells.toArray 65 (0, 0)) * (pts b4 (.cells (Ins.cells ⟨29, 4, 0, o0, o0, o0⟩).toArray 65 (0, 0)) * (pts b3 (.cells s1.cells 139 (0, 0)) * (slA 5 (rdA.u8s' l) s1.a s1.n s1.c * F)))) := h8'.eq (by
      show pts b4 (.cells (Ins.cells ⟨29, 4, 0, o0, o0, o0⟩).toArray 65 (0, 0)) * _ = _
      unfold rdA
      ac_rfl)
    refine ⟨_, ld h8 rfl, nq_bad ?_⟩
    have fin2 : ∀ (o : Obj) (w' : World), S w0 w' (pts b1 o * (pts b4 (.cells (Ins.cells ⟨29, 4, 0, o0, o0, o0⟩).toArray 65 (0, 0)) * (pts b3 (.cells s1.cells 139 (0, 0)) * (slA 5 (rdA.u8s' l) s1.a s1.n s1.c * F)))) → S w0 w' (slA 5 (u8s l) a l.length c * F) := fun o w' h' =>
      fin s1 w' _ ka kn kc (h'.eq (show _ = (pts b1 o * pts b4 (.cells (Ins.cells ⟨29, 4, 0, o0, o0, o0⟩).toArray 65 (0, 0))) * (rdA 139 b3 l s1 * F) by unfold rdA; ac_rfl))
    cases hb : s1.bad with
    | some e =>
      simp only [dNop, hb] at k
      refine b_t rfl (dr h8 fun w9 h9 => ⟨_, ld h9 rfl, ?_⟩)
      refine sww h9 rfl rfl trivial fun w10 h10 => ⟨_, ld h10 rfl, rfl, ?_⟩
      iterate 33 refine ⟨_, ld h10 rfl, ?_⟩
      show R (.returned (.tuple #[i0.val, badV s1.bad])) w10
      rw [hb]
      exact k w10 (fin2 _ w10 h10)
    | none =>
      simp only [dNop, hb] at k
      refine b_f rfl ?_
      iterate 33 refine ⟨_, ld h8 rfl, ?_⟩
      refine sww h8 rfl rfl trivial fun w10 h10 => ?_
      iterate 33 refine ⟨_, ld h10 rfl, ?_⟩
      exact k w10 (fin2 _ w10 h10)
  simp only [if_neg c1] at k
  refine b_f (nt c1) (c_head hl hr fun w5 h5' => ⟨_, _, rfl, ?_⟩)
  have hk := rHead_keep hl s0 r0
  have hop := rHead_range hl s0
  have ka : (rHead l s0).2.2.a = a := by rw [hk.1.a, hs0]
  have kn : (rHead l s0).2.2.n = l.length := by rw [hk.1.n, hs0]
  have kc : (rHead l s0).2.2.c = c := by rw [hk.1.c, hs0]
  have hs1 : (rHead l s0).2.2.ok := ⟨hk.2.1, hk.2.2, by rw [hk.1.form, f0]; omega, by rw [hk.1.form, f0]; omega⟩
  clear hk
  generalize (rHead l s0).1 = op at k hop ⊢
  generalize (rHead l s0).2.1 = two at k ⊢
  generalize (rHead l s0).2.2 = s1 at k ka kn kc hs1 h5' ⊢
  have h5 := rd_open h5'
  refine ⟨_, ld h5 rfl, nq_bad ?_⟩
  cases hb : s1.bad with
  | some e =>
    simp only [dBody, hb] at k
    refine b_t rfl (dr h5 fun w6 h6 => ⟨_, ld h6 rfl, ?_⟩)
    refine sww h6 rfl rfl trivial fun w7 h7 => ⟨_, ld h7 rfl, rfl, ?_⟩
    iterate 33 refine ⟨_, ld h7 rfl, ?_⟩
    show R (.returned (.tuple #[i0.val, badV s1.bad])) w7
    rw [hb]
    exact k w7 (fin s1 w7 _ ka kn kc (h7.eq (show _ = pts b1 _ * (rdA 139 b3 l s1 * F) by unfold rdA; ac_rfl)))
  | none =>
  refine b_f rfl (c_bit (by omega) (by omega) hs1.rex0 hs1.rex1 h5' ⟨_, rfl, ?_⟩)
  refine ⟨fun y w' => y = dW s1 ∧ w' = w5, ?_, ?_⟩
  · unfold dW
    by_cases c2 : rBit s1.rex 8 = 8
    · rw [if_pos c2]; exact b_t (by simpa using c2) ⟨rfl, rfl⟩
    · rw [if_neg c2]; exact b_f (by simpa using c2) ⟨rfl, rfl⟩
  rintro _ wd w6 ⟨rfl, rfl⟩
  simp only [dBody, hb] at k
  have hwd := dW_or s1
  generalize dW s1 = wd at k hwd ⊢
  refine c_anyRow hop.1 hop.2 h5' fun w7 h7 => ⟨_, _, _, _, _, _, _, _, _, _, _, _, _, rfl, ?_⟩
  have hxn := any_ok (two := two) hop.1 hop.2 hwd
  generalize rAny two op wd = x at k hxn ⊢
  refine al h7 fun bR w8 h8 => sww h8 rfl rfl trivial fun w9 h9' => ?_
  have h9 : S w0 w9 (rdA 139 b3 l s1 * (pts bR (.cells x.1.cells.toArray 146 (0, 0)) * (pts b1 (.cells i0.cells.toArray 65 (0, 0)) * F))) := h9'.eq (by
    show pts bR (.cells x.1.cells.toArray 146 (0, 0)) * _ = _
    ac_rfl)
  have h9o := rd_open h9
  refine ⟨fun y w' => y = dRef op two s1 x ∧ w' = w9, ?_, ?_⟩
  · unfold dRef
    cases hx2 : x.2 with
    | false => exact iff_ (by simp) ⟨by simp, rfl⟩
    | true =>
      refine ift rfl ⟨_, ld h9o rfl, ?_⟩
      cases hsg : s1.seg with
      | true =>
        refine b_t rfl ⟨_, ld h9o rfl, ?_⟩
        cases hfm : x.1.form with
        | false => exact iff_ (by simp) ⟨by simp, rfl⟩
        | true =>
          refine ift rfl ⟨_, ld h9o rfl, ?_⟩
          cases h9e : (x.1.op == 9) with
          | true => exact iff_ (by simp) ⟨by simp, rfl⟩
          | false =>
            refine ift rfl ?_
            cases two with
            | true => exact iff_ (by simp) ⟨by simp, rfl⟩
            | false =>
              refine ift rfl ?_
              cases hoe : (op == 144) with
              | false => exact iff_ (by simp) ⟨by simp, rfl⟩
              | true => exact ift rfl (c_bit (by omega) (by omega) hs1.rex0 hs1.rex1 h9 ⟨_, rfl, by simp, rfl⟩)
      | false =>
        refine b_f rfl ?_
        cases two with
        | true => exact iff_ (by simp) ⟨by simp, rfl⟩
        | false =>
          refine ift rfl ?_
          cases hoe : (op == 144) with
          | false => exact iff_ (by simp) ⟨by simp, rfl⟩
          | true => exact ift rfl (c_bit (by omega) (by omega) hs1.rex0 hs1.rex1 h9 ⟨_, rfl, by simp, rfl⟩)
  rintro _ y w10 ⟨rfl, rfl⟩
  by_cases c3 : dRef op two s1 x = true
  · simp only [if_pos c3] at k
    refine b_t c3 (sww h9o rfl rfl trivial fun w11 h11 => ?_)
    iterate 33 refine ⟨_, ld h11 rfl, ?_⟩
    exact k w11 (fin s1 w11 _ ka kn kc (h11.eq (show _ = (pts b1 _ * pts bR (.cells x.1.cells.toArray 146 (0, 0))) * (rdA 139 b3 l s1 * F) by unfold rdA; ac_rfl)))
  simp only [if_neg c3] at k
  refine b_f (nt c3) ⟨_, ld h9o rfl, ?_⟩
  refine ⟨fun w' => S w0 w' (rdA 139 b3 l (dLow op x.1 s1) * (pts bR (.cells x.1.cells.toArray 146 (0, 0)) * (pts b1 (.cells i0.cells.toArray 65 (0, 0)) * F))), ?_, ?_⟩
  · unfold dLow
    by_cases c4 : x.1.a.kind = 4
    · rw [if_pos c4]
      refine b_t (by simpa using c4) (dr h9 fun w11 h11 => ⟨_, ld h11 rfl, ?_⟩)
      refine c_bit (by omega) (by omega) hs1.rex0 hs1.rex1 h11 ⟨_, rfl, rfl, _, ld h11 rfl, rfl, ?_⟩
      have hb := rBit_range s1.rex 1
      rw [tmod_pos hop.1, wi64 (by omega) (by omega)]
      exact c_register h11 fun w12 h12 => ⟨_, _, _, _, _, _, _, _, _, _, rfl, h12⟩
    · rw [if_neg c4]
      exact b_f (by simpa using c4) h9
  rintro _ w11 h11
  have hs2 : (dLow op x.1 s1).ok := (dLow_keep op x.1 s1).ok hs1
  have ka2 : (dLow op x.1 s1).a = a := by rw [(dLow_keep op x.1 s1).a, ka]
  have kn2 : (dLow op x.1 s1).n = l.length := by rw [(dLow_keep op x.1 s1).n, kn]
  have kc2 : (dLow op x.1 s1).c = c := by rw [(dLow_keep op x.1 s1).c, kc]
  generalize dLow op x.1 s1 = s2 at k hs2 ka2 kn2 kc2 h11
  clear hb h5 h5' h7 h8 h9 h9' h9o ka kn kc hs1 c3
  refine ⟨_, ld h11 rfl, ?_⟩
  refine ⟨fun w' => S w0 w' (rdA 139 b3 l (dForm l op two wd x.1 s2).2 * (pts bR (.cells (dForm l op two wd x.1 s2).1.cells.toArray 146 (0, 0)) * (pts b1 (.cells i0.cells.toArray 65 (0, 0)) * F))), ?_, ?_⟩
  · by_cases c5 : x.1.form = true
    · have e5 : dForm l op two wd x.1 s2 = ((dRow op two wd x.1 (dPut l s2)).1, dPl l (dRow op two wd x.1 (dPut l s2)).2) := by unfold dForm; rw [if_pos c5]
      rw [e5]
      refine b_t c5 (c_next hl h11 fun w12 h12 => ⟨_, rfl, st (rd_open h12) rfl fun w13 h13 => ?_⟩)
      have hs3 := dPut_ok hl hs2
      have h13' : S w0 w13 (rdA 139 b3 l (dPut l s2) * _) := rd_shut (s := dPut l s2) h13
      generalize dPut l s2 = s3 at hs3 h13' ⊢
      clear h13
      have h13 := rd_open h13'
      refine ⟨_, ld h13 rfl, nq_bad ?_⟩
      refine ⟨fun w' => S w0 w' (rdA 139 b3 l (dRow op two wd x.1 s3).2 * (pts bR (.cells (dRow op two wd x.1 s3).1.cells.toArray 146 (0, 0)) * (pts b1 (.cells i0.cells.toArray 65 (0, 0)) * F))), ?_, ?_⟩
      · by_cases c6 : s3.bad.isNone = true
        · have e6 : dRow op two wd x.1 s3 = ((rRowOf two op wd (s3.form / 8 % 8)).1, rEarly (rEarly (dMark (rRowOf two op wd (s3.form / 8 % 8)) s3) (rRowOf two op wd (s3.form / 8 % 8)).1.a) (rRowOf two op wd (s3.form / 8 % 8)).1.b) := by unfold dRow; rw [if_pos c6]
          rw [e6]
          refine b_t c6 ⟨_, ld h13 rfl, ?_⟩
          have g0 := hs3.form0
          have g1 := hs3.form1
          rw [tdiv_pos g0, wi64 (x := s3.form / 8) (by omega) (by omega), tmod_pos (by omega)]
          refine c_rowOf hop.1 hop.2 (by omega) (by omega) h13' fun w14 h14 => ⟨_, _, _, _, _, _, _, _, _, _, _, _, _, rfl, ?_⟩
          generalize rRowOf two op wd (s3.form / 8 % 8) = y
          refine sww h14 rfl rfl trivial fun w15 h15 => ?_
          have h15' : S w0 w15 (rdA 139 b3 l s3 * (pts bR (.cells y.1.cells.toArray 146 (0, 0)) * (pts b1 (.cells i0.cells.toArray 65 (0, 0)) * F))) := h15
          have h15o := rd_open h15'
          refine ⟨fun z w' => z = (!y.2 || (s3.seg && s3.form / 64 == 3)) ∧ w' = w15, ?_, ?_⟩
          · cases hy2 : y.2 with
            | false => exact iff_ (by simp) ⟨by simp, rfl⟩
            | true =>
              refine ift rfl ⟨_, ld h15o rfl, ?_⟩
              cases hsg : s3.seg with
              | false => exact iff_ (by simp) ⟨by simp, rfl⟩
              | true => 
                refine ift rfl ⟨_, ld h15o rfl, ?_, rfl⟩
                rw [tdiv_pos g0, wi64 (x := s3.form / 64) (by omega) (by omega)]
                simp
          rintro _ z w16 ⟨rfl, rfl⟩
          refine ⟨fun w' => S w0 w' (rdA 139 b3 l (dMark y s3) * (pts bR (.cells y.1.cells.toArray 146 (0, 0)) * (pts b1 (.cells i0.cells.toArray 65 (0, 0)) * F))), ?_, ?_⟩
          · by_cases c7 : (!y.2 || (s3.seg && s3.form / 64 == 3)) = true
            · have e7 : dMark y s3 = failS s3 := by unfold dMark; rw [if_pos c7]
              rw [e7]
              exact b_t c7 (c_fail h15' fun w17 h17 => ⟨rfl, h17⟩)
            · have e7 : dMark y s3 = s3 := by unfold dMark; rw [if_neg c7]
              rw [e7]
              exact b_f (nt c7) h15'
          rintro _ w17 h17
          iterate 3 refine ⟨_, ld h17 rfl, ?_⟩
          have hs4 := (dMark_keep y s3).ok hs3
          refine c_early (sp := y.1.a) hs4 h17 fun w18 h18 => ⟨rfl, ?_⟩
          iterate 3 refine ⟨_, ld h18 rfl, ?_⟩
          exact c_early (sp := y.1.b) ((rEarly_keep _ _).ok hs4) h18 fun w19 h19 => ⟨rfl, h19⟩
        · have e6 : dRow op two wd x.1 s3 = (x.1, s3) := by unfold dRow; rw [if_neg c6]
          rw [e6]
          exact b_f (nt c6) h13'
      rintro _ w14 h14
      have hs4 : (dRow op two wd x.1 s3).2.ok := (dRow_keep op two wd x.1 s3).ok hs3
      generalize dRow op two wd x.1 s3 = p at hs4 h14 ⊢
      have h14o := rd_open h14
      have g0 := hs4.form0
      have g1 := hs4.form1
      refine ⟨fun z w' => z = (p.2.bad.isNone && decide (p.2.form / 64 < 3)) ∧ w' = w14, ⟨_, ld h14o rfl, nq_bad ?_⟩, ?_⟩
      · cases hb3 : p.2.bad.isNone with
        | false => exact iff_ (by simp) ⟨by simp, rfl⟩
        | true =>
          refine ift rfl ⟨_, ld h14o rfl, ?_, rfl⟩
          rw [tdiv_pos g0, wi64 (x := p.2.form / 64) (by omega) (by omega)]
          simp
      rintro _ z w15 ⟨rfl, rfl⟩
      show (if (p.2.bad.isNone && decide (p.2.form / 64 < 3)) = true then _ else _)
      by_cases c8 : (p.2.bad.isNone && decide (p.2.form / 64 < 3)) = true
      · refine b_t c8 ?_
        have : p.2.form / 64 < 3 := by simp at c8; exact c8.2
        refine c_place hl hs4 (by omega) h14 fun w16 h16 => ⟨rfl, ?_⟩
        have e : dPl l p.2 = rPlace l p.2 := by unfold dPl; rw [if_pos c8]
        simp only [e]
        exact h16
      · have e : dPl l p.2 = p.2 := by unfold dPl; rw [if_neg c8]
        refine b_f (nt c8) ?_
        simp only [e]
        exact h14
    · have e5 : dForm l op two wd x.1 s2 = (x.1, s2) := by unfold dForm; rw [if_neg c5]
      rw [e5]
      exact b_f (nt c5) h11
  rintro _ w12 h12'
  have hs3 := dForm_ok (two := two) (x := x.1) (op := op) (wd := wd) hl hs2
  have hn3 := rowOk_n (dForm_n (two := two) (x := x.1) hl hop.1 hop.2 hwd hs2 hxn)
  have ks := dForm_src l op two wd x.1 s2
  obtain ⟨sA, hsA⟩ : ∃ s, s = (rOperand l (dForm l op two wd x.1 s2).2 (dForm l op two wd x.1 s2).1.a op).2 := ⟨_, rfl⟩
  obtain ⟨sB, hsB⟩ : ∃ s, s = (rOperand l sA (dForm l op two wd x.1 s2).1.b op).2 := ⟨_, rfl⟩
  obtain ⟨sC, hsC⟩ : ∃ s, s = (rOperand l sB (dForm l op two wd x.1 s2).1.c op).2 := ⟨_, rfl⟩
  have kA : Keep (dForm l op two wd x.1 s2).2 sA := by rw [hsA]; exact rOperand_keep _ _ _ _
  have kB : Keep sA sB := by rw [hsB]; exact rOperand_keep _ _ _ _
  have kC' : Keep sB sC := by rw [hsC]; exact rOperand_keep _ _ _ _
  have okA := kA.ok hs3
  have okB := kB.ok okA
  have kC : sC.a = a ∧ sC.n = l.length ∧ sC.c = c := by
    have := (kA.trans kB).trans kC'
    rw [this.a, this.n, this.c, ks.1, ks.2.1, ks.2.2]
    exact ⟨ka2, kn2, kc2⟩
  unfold dOps at k
  rw [← hsA, ← hsB, ← hsC] at k
  obtain ⟨ka3, kn3, kc3⟩ := kC
  refine dr h12' fun w12 h12 => ?_
  generalize dForm l op two wd x.1 s2 = p at *
  iterate 11 refine ⟨_, ld h12 rfl, ?_⟩
  obtain ⟨oA, hoA⟩ : ∃ o, o = (rOperand l p.2 p.1.a op).1 := ⟨_, rfl⟩
  obtain ⟨oB, hoB⟩ : ∃ o, o = (rOperand l sA p.1.b op).1 := ⟨_, rfl⟩
  obtain ⟨oC, hoC⟩ : ∃ o, o = (rOperand l sB p.1.c op).1 := ⟨_, rfl⟩
  rw [← hoA, ← hoB, ← hoC] at k
  have callA : ∀ (w : World) (R : Ending → World → Prop) (G : Asrt), S w0 w (rdA 139 b3 l p.2 * G) → (∀ w', S w0 w' (rdA 139 b3 l sA * G) → R (.returned oA.val) w') → Calls Tryz.prog 65 #[.pointer (some ⟨b3, 0, none⟩), p.1.a.val, .int .i64 op] w R := fun w R G h k => by
    subst hsA hoA; exact c_operand hl hs3 hop.1 hn3.1 h k
  have callB : ∀ (w : World) (R : Ending → World → Prop) (G : Asrt), S w0 w (rdA 139 b3 l sA * G) → (∀ w', S w0 w' (rdA 139 b3 l sB * G) → R (.returned oB.val) w') → Calls Tryz.prog 65 #[.pointer (some ⟨b3, 0, none⟩), p.1.b.val, .int .i64 op] w R := fun w R G h k => by
    subst hsB hoB; exact c_operand hl okA hop.1 hn3.2.1 h k
  have callC : ∀ (w : World) (R : Ending → World → Prop) (G : Asrt), S w0 w (rdA 139 b3 l sB * G) → (∀ w', S w0 w' (rdA 139 b3 l sC * G) → R (.returned oC.val) w') → Calls Tryz.prog 65 #[.pointer (some ⟨b3, 0, none⟩), p.1.c.val, .int .i64 op] w R := fun w R G h k => by
    subst hsC hoC; exact c_operand hl okB hop.1 hn3.2.2 h k
  clear hsA hsB hsC hoA hoB hoC kA kB kC' okA okB hs3 hn3 ks h12'
  have tail : ∀ (bi : Nat) (wT : World), S w0 wT (rdA 139 b3 l sC * (pts bi (.cells (Ins.cells ⟨p.1.op, 0, p.1.cond, oA, oB, oC⟩).toArray 65 (0, 0)) * (pts bR (.cells p.1.cells.toArray 146 (0, 0)) * (pts b1 (.cells i0.cells.toArray 65 (0, 0)) * F)))) → ∃ x216_421 : Value, wT.cell? (⟨b3, 2, none⟩ : Addr) = some x216_421 ∧ nilQ x216_421 (fun r422 => (if (!r422) = true then ∀ w423 : World, w423 = wT.drew → ∃ x223_424 : Value, w423.cell? (⟨b3, 2, none⟩ : Addr) = some x223_424 ∧ sts w423 (⟨b1, 0, none⟩ : Addr) 33 [(.int .i64 0), (.int .i64 0), (.int .i64 0), (.int .i64 0), (.int .i64 0), (.int .i64 0), (.int .i64 0), (.int .i64 0), (.int .i64 0), (.int .i64 0), (.int .i64 0), (.bool false), (.bool false), (.int .i64 0), (.int .i64 0), (.int .i64 0), (.int .i64 0), (.int .i64 0), (.int .i64 0), (.int .i64 0), (.int .i64 0), (.bool false), (.bool false), (.int .i64 0), (.int .i64 0), (.int .i64 0), (.int .i64 0), (.int .i64 0), (.int .i64 0), (.int .i64 0), (.int .i64 0), (.bool false), (.bool false)] (fun w425 => ∃ x223_426 : Value, w425.cell? (⟨b3, 2, none⟩ : Addr) = some x223_426 ∧ (x223_426 : Value) = x223_424 ∧ ∃ q427 : Int, w425.cell? (⟨b1, 0, none⟩ : Addr) = some (.int .i64 q427) ∧ ∃ q428 : Int, w425.cell? (⟨b1, 1, none⟩ : Addr) = some (.int .i64 q428) ∧ ∃ q429 : Int, w425.cell? (⟨b1, 2, none⟩ : Addr) = some (.int .i64 q429) ∧ ∃ q430 : Int, w425.cell? (⟨b1, 3, none⟩ : Addr) = some (.int .i64 q430) ∧ ∃ q431 : Int, w425.cell? (⟨b1, 4, none⟩ : Addr) = some (.int .i64 q431) ∧ ∃ q432 : Int, w425.cell? (⟨b1, 5, none⟩ : Addr) = some (.int .i64 q432) ∧ ∃ q433 : Int, w425.cell? (⟨b1, 6, none⟩ : Addr) = some (.int .i64 q433) ∧ ∃ q434 : Int, w425.cell? (⟨b1, 7, none⟩ : Addr) = some (.int .i64 q434) ∧ ∃ q435 : Int, w425.cell? (⟨b1, 8, none⟩ : Addr) = some (.int .i64 q435) ∧ ∃ q436 : Int, w425.cell? (⟨b1, 9, none⟩ : Addr) = some (.int .i64 q436) ∧ ∃ q437 : Int, w425.cell? (⟨b1, 10, none⟩ : Addr) = some (.int .i64 q437) ∧ ∃ q438 : Bool, w425.cell? (⟨b1, 11, none⟩ : Addr) = some (.bool q438) ∧ ∃ q439 : Bool, w425.cell? (⟨b1, 12, none⟩ : Addr) = some (.bool q439) ∧ ∃ q440 : Int, w425.cell? (⟨b1, 13, none⟩ : Addr) = some (.int .i64 q440) ∧ ∃ q441 : Int, w425.cell? (⟨b1, 14, none⟩ : Addr) = some (.int .i64 q441) ∧ ∃ q442 : Int, w425.cell? (⟨b1, 15, none⟩ : Addr) = some (.int .i64 q442) ∧ ∃ q443 : Int, w425.cell? (⟨b1, 16, none⟩ : Addr) = some (.int .i64 q443) ∧ ∃ q444 : Int, w425.cell? (⟨b1, 17, none⟩ : Addr) = some (.int .i64 q444) ∧ ∃ q445 : Int, w425.cell? (⟨b1, 18, none⟩ : Addr) = some (.int .i64 q445) ∧ ∃ q446 : Int, w425.cell? (⟨b1, 19, none⟩ : Addr) = some (.int .i64 q446) ∧ ∃ q447 : Int, w425.cell? (⟨b1, 20, none⟩ : Addr) = some (.int .i64 q447) ∧ ∃ q448 : Bool, w425.cell? (⟨b1, 21, none⟩ : Addr) = some (.bool q448) ∧ ∃ q449 : Bool, w425.cell? (⟨b1, 22, none⟩ : Addr) = some (.bool q449) ∧ ∃ q450 : Int, w425.cell? (⟨b1, 23, none⟩ : Addr) = some (.int .i64 q450) ∧ ∃ q451 : Int, w425.cell? (⟨b1, 24, none⟩ : Addr) = some (.int .i64 q451) ∧ ∃ q452 : Int, w425.cell? (⟨b1, 25, none⟩ : Addr) = some (.int .i64 q452) ∧ ∃ q453 : Int, w425.cell? (⟨b1, 26, none⟩ : Addr) = some (.int .i64 q453) ∧ ∃ q454 : Int, w425.cell? (⟨b1, 27, none⟩ : Addr) = some (.int .i64 q454) ∧ ∃ q455 : Int, w425.cell? (⟨b1, 28, none⟩ : Addr) = some (.int .i64 q455) ∧ ∃ q456 : Int, w425.cell? (⟨b1, 29, none⟩ : Addr) = some (.int .i64 q456) ∧ ∃ q457 : Int, w425.cell? (⟨b1, 30, none⟩ : Addr) = some (.int .i64 q457) ∧ ∃ q458 : Bool, w425.cell? (⟨b1, 31, none⟩ : Addr) = some (.bool q458) ∧ ∃ q459 : Bool, w425.cell? (⟨b1, 32, none⟩ : Addr) = some (.bool q459) ∧ R (.returned (.tuple #[(.agg #[(.int .i64 q427), (.int .i64 q428), (.int .i64 q429), (.int .i64 q430), (.int .i64 q431), (.int .i64 q432), (.int .i64 q433), (.int .i64 q434), (.int .i64 q435), (.int .i64 q436), (.int .i64 q437), (.bool q438), (.bool q439), (.int .i64 q440), (.int .i64 q441), (.int .i64 q442), (.int .i64 q443), (.int .i64 q444), (.int .i64 q445), (.int .i64 q446), (.int .i64 q447), (.bool q448), (.bool q449), (.int .i64 q450), (.int .i64 q451), (.int .i64 q452), (.int .i64 q453), (.int .i64 q454), (.int .i64 q455), (.int .i64 q456), (.int .i64 q457), (.bool q458), (.bool q459)]), x223_424])) w425) else ∃ x228_460 : Int, wT.cell? (⟨b3, 1, none⟩ : Addr) = some (.int .i64 x228_460) ∧ stc wT (⟨bi, 1, none⟩ : Addr) (.int .i64 x228_460) (fun w461 => ∃ x230_462 : Int, w461.cell? (⟨bi, 0, none⟩ : Addr) = some (.int .i64 x230_462) ∧ ∃ x230_463 : Int, w461.cell? (⟨bi, 1, none⟩ : Addr) = some (.int .i64 x230_463) ∧ ∃ x230_464 : Int, w461.cell? (⟨bi, 2, none⟩ : Addr) = some (.int .i64 x230_464) ∧ ∃ x230_465 : Int, w461.cell? (⟨bi, 3, none⟩ : Addr) = some (.int .i64 x230_465) ∧ ∃ x230_466 : Int, w461.cell? (⟨bi, 4, none⟩ : Addr) = some (.int .i64 x230_466) ∧ ∃ x230_467 : Int, w461.cell? (⟨bi, 5, none⟩ : Addr) = some (.int .i64 x230_467) ∧ ∃ x230_468 : Int, w461.cell? (⟨bi, 6, none⟩ : Addr) = some (.int .i64 x230_468) ∧ ∃ x230_469 : Int, w461.cell? (⟨bi, 7, none⟩ : Addr) = some (.int .i64 x230_469) ∧ ∃ x230_470 : Int, w461.cell? (⟨bi, 8, none⟩ : Addr) = some (.int .i64 x230_470) ∧ ∃ x230_471 : Int, w461.cell? (⟨bi, 9, none⟩ : Addr) = some (.int .i64 x230_471) ∧ ∃ x230_472 : Int, w461.cell? (⟨bi, 10, none⟩ : Addr) = some (.int .i64 x230_472) ∧ ∃ x230_473 : Bool, w461.cell? (⟨bi, 11, none⟩ : Addr) = some (.bool x230_473) ∧ ∃ x230_474 : Bool, w461.cell? (⟨bi, 12, none⟩ : Addr) = some (.bool x230_474) ∧ ∃ x230_475 : Int, w461.cell? (⟨bi, 13, none⟩ : Addr) = some (.int .i64 x230_475) ∧ ∃ x230_476 : Int, w461.cell? (⟨bi, 14, none⟩ : Addr) = some (.int .i64 x230_476) ∧ ∃ x230_477 : Int, w461.cell? (⟨bi, 15, none⟩ : Addr) = some (.int .i64 x230_477) ∧ ∃ x230_478 : Int, w461.cell? (⟨bi, 16, none⟩ : Addr) = some (.int .i64 x230_478) ∧ ∃ x230_479 : Int, w461.cell? (⟨bi, 17, none⟩ : Addr) = some (.int .i64 x230_479) ∧ ∃ x230_480 : Int, w461.cell? (⟨bi, 18, none⟩ : Addr) = some (.int .i64 x230_480) ∧ ∃ x230_481 : Int, w461.cell? (⟨bi, 19, none⟩ : Addr) = some (.int .i64 x230_481) ∧ ∃ x230_482 : Int, w461.cell? (⟨bi, 20, none⟩ : Addr) = some (.int .i64 x230_482) ∧ ∃ x230_483 : Bool, w461.cell? (⟨bi, 21, none⟩ : Addr) = some (.bool x230_483) ∧ ∃ x230_484 : Bool, w461.cell? (⟨bi, 22, none⟩ : Addr) = some (.bool x230_484) ∧ ∃ x230_485 : Int, w461.cell? (⟨bi, 23, none⟩ : Addr) = some (.int .i64 x230_485) ∧ ∃ x230_486 : Int, w461.cell? (⟨bi, 24, none⟩ : Addr) = some (.int .i64 x230_486) ∧ ∃ x230_487 : Int, w461.cell? (⟨bi, 25, none⟩ : Addr) = some (.int .i64 x230_487) ∧ ∃ x230_488 : Int, w461.cell? (⟨bi, 26, none⟩ : Addr) = some (.int .i64 x230_488) ∧ ∃ x230_489 : Int, w461.cell? (⟨bi, 27, none⟩ : Addr) = some (.int .i64 x230_489) ∧ ∃ x230_490 : Int, w461.cell? (⟨bi, 28, none⟩ : Addr) = some (.int .i64 x230_490) ∧ ∃ x230_491 : Int, w461.cell? (⟨bi, 29, none⟩ : Addr) = some (.int .i64 x230_491) ∧ ∃ x230_492 : Int, w461.cell? (⟨bi, 30, none⟩ : Addr) = some (.int .i64 x230_492) ∧ ∃ x230_493 : Bool, w461.cell? (⟨bi, 31, none⟩ : Addr) = some (.bool x230_493) ∧ ∃ x230_494 : Bool, w461.cell? (⟨bi, 32, none⟩ : Addr) = some (.bool x230_494) ∧ sts w461 (⟨b1, 0, none⟩ : Addr) 33 [(.int .i64 x230_462), (.int .i64 x230_463), (.int .i64 x230_464), (.int .i64 x230_465), (.int .i64 x230_466), (.int .i64 x230_467), (.int .i64 x230_468), (.int .i64 x230_469), (.int .i64 x230_470), (.int .i64 x230_471), (.int .i64 x230_472), (.bool x230_473), (.bool x230_474), (.int .i64 x230_475), (.int .i64 x230_476), (.int .i64 x230_477), (.int .i64 x230_478), (.int .i64 x230_479), (.int .i64 x230_480), (.int .i64 x230_481), (.int .i64 x230_482), (.bool x230_483), (.bool x230_484), (.int .i64 x230_485), (.int .i64 x230_486), (.int .i64 x230_487), (.int .i64 x230_488), (.int .i64 x230_489), (.int .i64 x230_490), (.int .i64 x230_491), (.int .i64 x230_492), (.bool x230_493), (.bool x230_494)] (fun w495 => ∃ q496 : Int, w495.cell? (⟨b1, 0, none⟩ : Addr) = some (.int .i64 q496) ∧ ∃ q497 : Int, w495.cell? (⟨b1, 1, none⟩ : Addr) = some (.int .i64 q497) ∧ ∃ q498 : Int, w495.cell? (⟨b1, 2, none⟩ : Addr) = some (.int .i64 q498) ∧ ∃ q499 : Int, w495.cell? (⟨b1, 3, none⟩ : Addr) = some (.int .i64 q499) ∧ ∃ q500 : Int, w495.cell? (⟨b1, 4, none⟩ : Addr) = some (.int .i64 q500) ∧ ∃ q501 : Int, w495.cell? (⟨b1, 5, none⟩ : Addr) = some (.int .i64 q501) ∧ ∃ q502 : Int, w495.cell? (⟨b1, 6, none⟩ : Addr) = some (.int .i64 q502) ∧ ∃ q503 : Int, w495.cell? (⟨b1, 7, none⟩ : Addr) = some (.int .i64 q503) ∧ ∃ q504 : Int, w495.cell? (⟨b1, 8, none⟩ : Addr) = some (.int .i64 q504) ∧ ∃ q505 : Int, w495.cell? (⟨b1, 9, none⟩ : Addr) = some (.int .i64 q505) ∧ ∃ q506 : Int, w495.cell? (⟨b1, 10, none⟩ : Addr) = some (.int .i64 q506) ∧ ∃ q507 : Bool, w495.cell? (⟨b1, 11, none⟩ : Addr) = some (.bool q507) ∧ ∃ q508 : Bool, w495.cell? (⟨b1, 12, none⟩ : Addr) = some (.bool q508) ∧ ∃ q509 : Int, w495.cell? (⟨b1, 13, none⟩ : Addr) = some (.int .i64 q509) ∧ ∃ q510 : Int, w495.cell? (⟨b1, 14, none⟩ : Addr) = some (.int .i64 q510) ∧ ∃ q511 : Int, w495.cell? (⟨b1, 15, none⟩ : Addr) = some (.int .i64 q511) ∧ ∃ q512 : Int, w495.cell? (⟨b1, 16, none⟩ : Addr) = some (.int .i64 q512) ∧ ∃ q513 : Int, w495.cell? (⟨b1, 17, none⟩ : Addr) = some (.int .i64 q513) ∧ ∃ q514 : Int, w495.cell? (⟨b1, 18, none⟩ : Addr) = some (.int .i64 q514) ∧ ∃ q515 : Int, w495.cell? (⟨b1, 19, none⟩ : Addr) = some (.int .i64 q515) ∧ ∃ q516 : Int, w495.cell? (⟨b1, 20, none⟩ : Addr) = some (.int .i64 q516) ∧ ∃ q517 : Bool, w495.cell? (⟨b1, 21, none⟩ : Addr) = some (.bool q517) ∧ ∃ q518 : Bool, w495.cell? (⟨b1, 22, none⟩ : Addr) = some (.bool q518) ∧ ∃ q519 : Int, w495.cell? (⟨b1, 23, none⟩ : Addr) = some (.int .i64 q519) ∧ ∃ q520 : Int, w495.cell? (⟨b1, 24, none⟩ : Addr) = some (.int .i64 q520) ∧ ∃ q521 : Int, w495.cell? (⟨b1, 25, none⟩ : Addr) = some (.int .i64 q521) ∧ ∃ q522 : Int, w495.cell? (⟨b1, 26, none⟩ : Addr) = some (.int .i64 q522) ∧ ∃ q523 : Int, w495.cell? (⟨b1, 27, none⟩ : Addr) = some (.int .i64 q523) ∧ ∃ q524 : Int, w495.cell? (⟨b1, 28, none⟩ : Addr) = some (.int .i64 q524) ∧ ∃ q525 : Int, w495.cell? (⟨b1, 29, none⟩ : Addr) = some (.int .i64 q525) ∧ ∃ q526 : Int, w495.cell? (⟨b1, 30, none⟩ : Addr) = some (.int .i64 q526) ∧ ∃ q527 : Bool, w495.cell? (⟨b1, 31, none⟩ : Addr) = some (.bool q527) ∧ ∃ q528 : Bool, w495.cell? (⟨b1, 32, none⟩ : Addr) = some (.bool q528) ∧ R (.returned (.tuple #[(.agg #[(.int .i64 q496), (.int .i64 q497), (.int .i64 q498), (.int .i64 q499), (.int .i64 q500), (.int .i64 q501), (.int .i64 q502), (.int .i64 q503), (.int .i64 q504), (.int .i64 q505), (.int .i64 q506), (.bool q507), (.bool q508), (.int .i64 q509), (.int .i64 q510), (.int .i64 q511), (.int .i64 q512), (.int .i64 q513), (.int .i64 q514), (.int .i64 q515), (.int .i64 q516), (.bool q517), (.bool q518), (.int .i64 q519), (.int .i64 q520), (.int .i64 q521), (.int .i64 q522), (.int .i64 q523), (.int .i64 q524), (.int .i64 q525), (.int .i64 q526), (.bool q527), (.bool q528)]), .nilIface])) w495)))) := by
    intro bi wT hT
    have hT2 := rd_open hT
    have fin3 : ∀ (X Y : Obj) (s : Rd) (w' : World), s.a = a → s.n = l.length → s.c = c → S w0 w' (pts b3 (.cells s.cells 139 (0, 0)) * (slA 5 (rdA.u8s' l) s.a s.n s.c * (pts bi X * (pts bR (.cells p.1.cells.toArray 146 (0, 0)) * (pts b1 Y * F))))) → S w0 w' (slA 5 (u8s l) a l.length c * F) := fun X Y s w' ha hn hc h' =>
      fin s w' (pts bi X * (pts bR (.cells p.1.cells.toArray 146 (0, 0)) * pts b1 Y)) ha hn hc (h'.eq (by unfold rdA; ac_rfl))
    refine ⟨_, ld hT2 rfl, nq_bad ?_⟩
    cases hb4 : sC.bad with
    | some e =>
      simp only [hb4] at k
      refine b_t rfl (dr hT2 fun w30 h30 => ⟨_, ld h30 rfl, ?_⟩)
      refine sww h30 rfl rfl trivial fun w31 h31 => ?_
      refine ⟨_, ld h31 rfl, rfl, ?_⟩
      iterate 33 refine ⟨_, ld h31 rfl, ?_⟩
      show R (.returned (.tuple #[i0.val, badV sC.bad])) w31
      rw [hb4]
      exact k w31 (fin3 _ _ sC w31 ka3 kn3 kc3 h31)
    | none =>
      simp only [hb4] at k
      refine b_f rfl ⟨_, ld hT2 rfl, ?_⟩
      refine st hT2 rfl fun w30 h30 => ?_
      iterate 33 refine ⟨_, ld h30 rfl, ?_⟩
      refine sww h30 rfl rfl trivial fun w31 h31 => ?_
      iterate 33 refine ⟨_, ld h31 rfl, ?_⟩
      exact k w31 (fin3 _ _ sC w31 ka3 kn3 kc3 h31)
  refine ⟨callA _ _ _ h12 fun wA hA => ⟨_, _, _, _, _, _, _, _, _, _, rfl, ?_⟩, ?_⟩
  · repeat (first | refine ⟨_, ld hA rfl, ?_⟩ | (with_reducible refine And.intro ?_ ?_; · rfl))
    refine ⟨callB _ _ _ hA fun wB hB => ⟨_, _, _, _, _, _, _, _, _, _, rfl, ?_⟩, ?_⟩
    · repeat (first | refine ⟨_, ld hB rfl, ?_⟩ | (with_reducible refine And.intro ?_ ?_; · rfl))
      refine ⟨callC _ _ _ hB fun wC hC => ⟨_, _, _, _, _, _, _, _, _, _, rfl, ?_⟩, ?_⟩
      · refine ⟨_, ld hC rfl, rfl, _, ld hC rfl, rfl, al hC fun bi wI hI => ?_⟩
        repeat (first | refine ⟨_, ld hI rfl, ?_⟩ | (with_reducible refine And.intro ?_ ?_; · rfl))
        refine sww hI rfl rfl trivial fun wT hT => ?_
        exact tail bi wT (hT.eq (mulL _ _ _))
      · refine al hB fun bi wI hI => ?_
        repeat (first | refine ⟨_, ld hI rfl, ?_⟩ | (with_reducible refine And.intro ?_ ?_; · rfl))
        refine callC _ _ _ (hI.eq (mulL _ _ _)) fun wC hC => ⟨_, _, _, _, _, _, _, _, _, _, rfl, ?_⟩
        repeat (first | refine ⟨_, ld hC rfl, ?_⟩ | (with_reducible refine And.intro ?_ ?_; · rfl))
        refine sww hC rfl rfl trivial fun wT hT => ?_
        exact tail bi wT hT
    · refine al hA fun bi wI hI => ?_
      repeat (first | refine ⟨_, ld hI rfl, ?_⟩ | (with_reducible refine And.intro ?_ ?_; · rfl))
      refine callB _ _ _ (hI.eq (mulL _ _ _)) fun wB hB => ⟨_, _, _, _, _, _, _, _, _, _, rfl, ?_⟩
      repeat (first | refine ⟨_, ld hB rfl, ?_⟩ | (with_reducible refine And.intro ?_ ?_; · rfl))
      refine callC _ _ _ hB fun wC hC => ⟨_, _, _, _, _, _, _, _, _, _, rfl, ?_⟩
      repeat (first | refine ⟨_, ld hC rfl, ?_⟩ | (with_reducible refine And.intro ?_ ?_; · rfl))
      refine sww hC rfl rfl trivial fun wT hT => ?_
      exact tail bi wT hT
  · refine al h12 fun bi wI hI => ?_
    repeat (first | refine ⟨_, ld hI rfl, ?_⟩ | (with_reducible refine And.intro ?_ ?_; · rfl))
    refine callA _ _ _ (hI.eq (mulL _ _ _)) fun wA hA => ⟨_, _, _, _, _, _, _, _, _, _, rfl, ?_⟩
    repeat (first | refine ⟨_, ld hA rfl, ?_⟩ | (with_reducible refine And.intro ?_ ?_; · rfl))
    refine callB _ _ _ hA fun wB hB => ⟨_, _, _, _, _, _, _, _, _, _, rfl, ?_⟩
    repeat (first | refine ⟨_, ld hB rfl, ?_⟩ | (with_reducible refine And.intro ?_ ?_; · rfl))
    refine callC _ _ _ hB fun wC hC => ⟨_, _, _, _, _, _, _, _, _, _, rfl, ?_⟩
    repeat (first | refine ⟨_, ld hC rfl, ?_⟩ | (with_reducible refine And.intro ?_ ?_; · rfl))
    refine sww hC rfl rfl trivial fun wT hT => ?_
    exact tail bi wT hT
end Go.Sk
