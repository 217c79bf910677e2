/- Contracts of the layer decode (seat Z): operands. -/
import Derived.Test.YtnkdccidhjifmaaGreatCg
set_option linter.unusedVariables false
set_option linter.unusedSimpArgs false
namespace Go.Sk
open Go.RowKit Go.Proofs
variable {w0 w : World} {F : Asrt} {R : Ending → World → Prop}
/-- An operand is handed on. -/
theorem leafOpn {A : Asrt} {b : Nat} {c : Array Value} {f : Obj → Asrt} {x : Opn} (h : S w0 w A) [hA : At A b (.cells c 61 (0, 0)) f] (hs : Nat.beq c.size 10 = true) (k : ∀ w', S w0 w' (f (.cells x.cells.toArray 61 (0, 0))) → R (.returned x.val) w') :
    ∃ x0 : Int, ∃ x1 : Int, ∃ x2 : Int, ∃ x3 : Int, ∃ x4 : Int, ∃ x5 : Int, ∃ x6 : Int, ∃ x7 : Int, ∃ x8 : Bool, ∃ x9 : Bool, Ending.returned x.val = .returned (.agg #[(.int .i64 x0), (.int .i64 x1), (.int .i64 x2), (.int .i64 x3), (.int .i64 x4), (.int .i64 x5), (.int .i64 x6), (.int .i64 x7), (.bool x8), (.bool x9)]) ∧ sts w (⟨b, 0, none⟩ : Addr) 10 [(.int .i64 x0), (.int .i64 x1), (.int .i64 x2), (.int .i64 x3), (.int .i64 x4), (.int .i64 x5), (.int .i64 x6), (.int .i64 x7), (.bool x8), (.bool x9)] (fun w' => ∃ q0 : Int, w'.cell? (⟨b, 0, none⟩ : Addr) = some (.int .i64 q0) ∧ ∃ q1 : Int, w'.cell? (⟨b, 1, none⟩ : Addr) = some (.int .i64 q1) ∧ ∃ q2 : Int, w'.cell? (⟨b, 2, none⟩ : Addr) = some (.int .i64 q2) ∧ ∃ q3 : Int, w'.cell? (⟨b, 3, none⟩ : Addr) = some (.int .i64 q3) ∧ ∃ q4 : Int, w'.cell? (⟨b, 4, none⟩ : Addr) = some (.int .i64 q4) ∧ ∃ q5 : Int, w'.cell? (⟨b, 5, none⟩ : Addr) = some (.int .i64 q5) ∧ ∃ q6 : Int, w'.cell? (⟨b, 6, none⟩ : Addr) = some (.int .i64 q6) ∧ ∃ q7 : Int, w'.cell? (⟨b, 7, none⟩ : Addr) = some (.int .i64 q7) ∧ ∃ q8 : Bool, w'.cell? (⟨b, 8, none⟩ : Addr) = some (.bool q8) ∧ ∃ q9 : Bool, w'.cell? (⟨b, 9, none⟩ : Addr) = some (.bool q9) ∧ R (.returned (.agg #[(.int .i64 q0), (.int .i64 q1), (.int .i64 q2), (.int .i64 q3), (.int .i64 q4), (.int .i64 q5), (.int .i64 q6), (.int .i64 q7), (.bool q8), (.bool q9)])) w') := by
  refine ⟨_, _, _, _, _, _, _, _, _, _, rfl, sww h rfl hs trivial fun w5 h5 => ?_⟩
  have hA' : At (f (.cells x.cells.toArray 61 (0, 0))) b (.cells x.cells.toArray 61 (0, 0)) f := ⟨rfl, hA.sp⟩
  iterate 10 refine ⟨_, ld (hA := hA') h5 rfl, ?_⟩
  exact k w5 h5
structure Rd.ok (s : Rd) : Prop where
  rex0 : 0 ≤ s.rex
  rex1 : s.rex < 16
  form0 : 0 ≤ s.form
  form1 : s.form < 256
def rOperand (l : List Int) (s : Rd) (sp : Spec) (op : Int) : Opn × Rd :=
  if sp.kind = 2 then rReg s (rBit s.rex 4 + s.form / 8 % 8) sp.width
  else if sp.kind = 1 ∨ sp.kind = 3 then (if s.form / 64 = 3 then rReg s (rBit s.rex 1 + s.form % 8) sp.width else ({ s.mem with width := sp.width }, s))
  else if sp.kind = 4 then rReg s (rBit s.rex 1 + op % 8) sp.width
  else if sp.kind = 5 then rReg s sp.n sp.width
  else if sp.kind = 6 then (⟨2, 0, sp.width, (rNum l s sp.n.toNat).1, 0, 0, 0, 0, false, false⟩, (rNum l s sp.n.toNat).2)
  else if sp.kind = 7 then (⟨2, 0, sp.width, 1, 0, 0, 0, 0, false, false⟩, s)
  else (o0, s)
theorem rBit_range (a b : Int) : 0 ≤ rBit a b ∧ rBit a b ≤ 8 := by unfold rBit; split <;> omega
theorem c_operand {T : TypeId} {b : Nat} {l : List Int} {s : Rd} {sp : Spec} {op : Int} (hl : isBytes l) (hs : s.ok) (ho : 0 ≤ op) (hn : 0 ≤ sp.n ∧ sp.n ≤ 8) (h : S w0 w (rdA T b l s * F))
    (k : ∀ w', S w0 w' (rdA T b l (rOperand l s sp op).2 * F) → R (.returned (rOperand l s sp op).1.val) w') :
    Calls Tryz.prog 65 #[.pointer (some ⟨b, 0, none⟩), sp.val, .int .i64 op] w R := by
  obtain ⟨kind, width, n⟩ := sp
  refine ok_decode_reader_operand _ [.int .i64 kind, .int .i64 width, .int .i64 n] _ (al h fun b1 w1 h1 => al h1 fun b3 w3 h3 => ?_)
  have hr : S w0 w3 (pts b (.cells s.cells T (0, 0)) * (slA 5 (rdA.u8s' l) s.a s.n s.c * (pts b3 (.cells #[.int .i64 0, .int .i64 0, .int .i64 0, .int .i64 0, .int .i64 0, .int .i64 0, .int .i64 0, .int .i64 0, .bool false, .bool false] 61 (0, 0)) * (pts b1 (.cells #[.int .i64 kind, .int .i64 width, .int .i64 n] 144 (0, 0)) * F)))) := h3.eq (by unfold rdA; ac_rfl)
  have f0 := hs.form0
  have f1 := hs.form1
  refine ⟨_, ld hr rfl, ?_⟩
  have fin : ∀ (x : Opn) (s' : Rd) (w8 : World), (∀ w', S w0 w' (rdA T b l s' * F) → R (.returned x.val) w') → S w0 w8 (rdA T b l s' * (pts b3 (.cells #[.int .i64 0, .int .i64 0, .int .i64 0, .int .i64 0, .int .i64 0, .int .i64 0, .int .i64 0, .int .i64 0, .bool false, .bool false] 61 (0, 0)) * (pts b1 (.cells #[.int .i64 kind, .int .i64 width, .int .i64 n] 144 (0, 0)) * F))) →
      S w0 w8 (pts b3 (.cells #[.int .i64 0, .int .i64 0, .int .i64 0, .int .i64 0, .int .i64 0, .int .i64 0, .int .i64 0, .int .i64 0, .bool false, .bool false] 61 (0, 0)) * (pts b1 (.cells #[.int .i64 kind, .int .i64 width, .int .i64 n] 144 (0, 0)) * (rdA T b l s' * F))) := fun x s' w8 _ h8 => h8.eq (by ac_rfl)
  have hrd := rd_shut hr
  by_cases c1 : kind = 2
  · simp only [rOperand, if_pos c1] at k
    refine b_t (by simpa using c1) (dr hr fun w4 h4 => ?_)
    iterate 2 refine ⟨_, ld h4 rfl, ?_⟩
    refine c_bit (by omega) (by omega) hs.rex0 hs.rex1 (rd_shut h4) ⟨_, rfl, ?_⟩
    iterate 1 refine ⟨_, ld h4 rfl, rfl, rfl, rfl, _, ld h4 rfl, rfl, ?_⟩
    have hb := rBit_range s.rex 4
    rw [tdiv_pos f0, wi64 (x := s.form / 8) (by omega) (by omega), tmod_pos (by omega), wi64 (by omega) (by omega)]
    refine c_register (rd_shut h4) fun w8 h8 => ?_
    exact leafOpn (fin (rReg s (rBit s.rex 4 + s.form / 8 % 8) width).1 _ w8 k h8) rfl fun w9 h9 => k w9 h9.drop.drop
  refine b_f (by simpa using c1) (jCase ?_)
  by_cases c2 : kind = 1 ∨ kind = 3
  · simp only [rOperand, if_neg c1, if_pos c2] at k
    refine b_t (by simpa using c2) ⟨_, ld hr rfl, ?_⟩
    rw [tdiv_pos f0, wi64 (x := s.form / 64) (by omega) (by omega)]
    by_cases c3 : s.form / 64 = 3
    · simp only [if_pos c3] at k
      refine b_t (by simpa using c3) (dr hr fun w4 h4 => ?_)
      iterate 2 refine ⟨_, ld h4 rfl, ?_⟩
      refine c_bit (by omega) (by omega) hs.rex0 hs.rex1 (rd_shut h4) ⟨_, rfl, ?_⟩
      refine ⟨_, ld h4 rfl, rfl, rfl, _, ld h4 rfl, rfl, ?_⟩
      have hb := rBit_range s.rex 1
      rw [tmod_pos f0, wi64 (by omega) (by omega)]
      refine c_register (rd_shut h4) fun w8 h8 => ?_
      exact leafOpn (fin (rReg s (rBit s.rex 1 + s.form % 8) width).1 _ w8 k h8) rfl fun w9 h9 => k w9 h9.drop.drop
    · simp only [if_neg c3] at k
      refine b_f (by simpa using c3) ?_
      iterate 10 refine ⟨_, ld hr rfl, ?_⟩
      refine al hr fun b4 w4 h4 => sww h4 rfl rfl trivial fun w5 h5 => ⟨_, ld h5 rfl, st h5 rfl fun w6 h6 => ?_⟩
      iterate 10 refine ⟨_, ld h6 rfl, ?_⟩
      refine sww h6 rfl rfl trivial fun w7 h7 => ?_
      iterate 10 refine ⟨_, ld h7 rfl, ?_⟩
      refine k w7 ?_
      have h8 : S w0 w7 _ := h7.drop
      exact (h8.eq (show _ = pts b3 _ * (pts b1 _ * (rdA T b l s * F)) by unfold rdA; ac_rfl)).drop.drop
  refine b_f (by simpa using c2) ?_
  by_cases c4 : kind = 4
  · simp only [rOperand, if_neg c1, if_neg c2, if_pos c4] at k
    refine b_t (by simpa using c4) (dr hr fun w4 h4 => ?_)
    refine ⟨_, ld h4 rfl, ?_⟩
    refine c_bit (by omega) (by omega) hs.rex0 hs.rex1 (rd_shut h4) ⟨_, rfl, ?_⟩
    refine ⟨rfl, _, ld h4 rfl, rfl, ?_⟩
    have hb := rBit_range s.rex 1
    rw [tmod_pos ho, wi64 (by omega) (by omega)]
    refine c_register (rd_shut h4) fun w8 h8 => ?_
    exact leafOpn (fin (rReg s (rBit s.rex 1 + op % 8) width).1 _ w8 k h8) rfl fun w9 h9 => k w9 h9.drop.drop
  refine b_f (by simpa using c4) ?_
  by_cases c5 : kind = 5
  · simp only [rOperand, if_neg c1, if_neg c2, if_neg c4, if_pos c5] at k
    refine b_t (by simpa using c5) ?_
    iterate 2 refine ⟨_, ld hr rfl, ?_⟩
    refine c_register hrd fun w8 h8 => ?_
    exact leafOpn (fin (rReg s n width).1 _ w8 k h8) rfl fun w9 h9 => k w9 h9.drop.drop
  refine b_f (by simpa using c5) ?_
  by_cases c6 : kind = 6
  · simp only [rOperand, if_neg c1, if_neg c2, if_neg c4, if_neg c5, if_pos c6] at k
    refine b_t (by simpa using c6) (dr hr fun w4 h4 => ?_)
    iterate 2 refine ⟨_, ld h4 rfl, ?_⟩
    obtain ⟨m, rfl⟩ : ∃ m : Nat, n = m := ⟨n.toNat, by have := hn.1; simp only [] at this; omega⟩
    refine c_number hl (by have := hn.2; simp only [] at this; omega) (rd_shut h4) fun w8 h8 => ?_
    have h9 := fin ⟨2, 0, width, (rNum l s m).1, 0, 0, 0, 0, false, false⟩ _ w8 k h8
    refine ⟨_, rfl, _, ld h9 rfl, rfl, sww h9 rfl rfl trivial fun w9 h9 => ?_⟩
    iterate 10 refine ⟨_, ld h9 rfl, ?_⟩
    exact k w9 h9.drop.drop
  refine b_f (by simpa using c6) ?_
  have h9 := h3
  by_cases c7 : kind = 7
  · simp only [rOperand, if_neg c1, if_neg c2, if_neg c4, if_neg c5, if_neg c6, if_pos c7] at k
    refine b_t (by simpa using c7) ⟨_, ld h9 rfl, sww h9 rfl rfl trivial fun w9 h9 => ?_⟩
    iterate 10 refine ⟨_, ld h9 rfl, ?_⟩
    exact k w9 h9.drop.drop
  · simp only [rOperand, if_neg c1, if_neg c2, if_neg c4, if_neg c5, if_neg c6, if_neg c7] at k
    refine b_f (by simpa using c7) (sww h9 rfl rfl trivial fun w9 h9 => ?_)
    iterate 10 refine ⟨_, ld h9 rfl, ?_⟩
    exact k w9 h9.drop.drop
end Go.Sk
