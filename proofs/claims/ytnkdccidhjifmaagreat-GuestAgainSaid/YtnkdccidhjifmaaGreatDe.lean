/- Contracts of the layer exec (seat Z): what a decoded instruction is. -/
import Derived.Test.YtnkdccidhjifmaaGreatDc
set_option linter.unusedVariables false
set_option linter.unusedSimpArgs false
namespace Go.Sk
open Go.RowKit Go.Proofs
/-! ### What is decoded -/
def spW (s : Spec) : Bool := decide (0 ≤ s.n) && decide (s.n ≤ 8) && (s.width == 0 || s.width == 1 || s.width == 4 || s.width == 8)
def rowW (x : Row) : Bool := spW x.a && spW x.b && spW x.c && (!(isBin x.op || isUn x.op) || (decide (1 ≤ x.a.width) && decide (1 ≤ x.a.kind) && decide (x.a.kind ≤ 7)))
def rowsW : Bool := (List.range 256).all fun op => (List.range 8).all fun d => rowW (rRowOf true op 4 d).1 && rowW (rRowOf true op 8 d).1 && rowW (rRowOf false op 4 d).1 && rowW (rRowOf false op 8 d).1
theorem rowsW_true : rowsW = true := by kernel_rfl
theorem rowOf_W {two : Bool} {op x d : Int} (h0 : 0 ≤ op) (h1 : op < 256) (d0 : 0 ≤ d) (d1 : d < 8) (hx : x = 4 ∨ x = 8) : rowW (rRowOf two op x d).1 = true := by
  have h := rowsW_true
  unfold rowsW at h
  rw [List.all_eq_true] at h
  have h2 := h op.toNat (by rw [List.mem_range]; omega)
  rw [List.all_eq_true] at h2
  have h3 := h2 d.toNat (by rw [List.mem_range]; omega)
  have e1 : ((op.toNat : Nat) : Int) = op := by omega
  have e2 : ((d.toNat : Nat) : Int) = d := by omega
  rw [e1, e2] at h3
  simp only [Bool.and_eq_true] at h3
  obtain ⟨⟨⟨h4, h5⟩, h6⟩, h7⟩ := h3
  rcases hx with rfl | rfl <;> cases two <;> assumption
theorem anyFrom_W {two : Bool} {op x : Int} (h0 : 0 ≤ op) (h1 : op < 256) (hx : x = 4 ∨ x = 8) : ∀ (n d : Nat), d + n ≤ 8 → rowW (rAnyFrom two op x n d).1 = true
  | 0, d, _ => rfl
  | n + 1, d, h => by
    rw [rAnyFrom]
    split
    · exact rowOf_W (two := two) (d := d) h0 h1 (by omega) (by omega) hx
    · exact anyFrom_W h0 h1 hx n (d + 1) (by omega)
theorem dForm_W {l : List Int} (hl : isBytes l) {op : Int} {two : Bool} {wd : Int} {x : Row} {s : Rd} (h0 : 0 ≤ op) (h1 : op < 256) (hw : wd = 4 ∨ wd = 8) (hs : s.ok) (hx : rowW x = true) : rowW (dForm l op two wd x s).1 = true := by
  unfold dForm
  split
  · have f0 := (dPut_ok hl hs).form0
    unfold dRow
    split
    · exact rowOf_W h0 h1 (by omega) (by omega) hw
    · exact hx
  · exact hx
def Opn.okM (o : Opn) : Prop := o.reg = 0 ∧ o.base < 16 ∧ o.index < 16
theorem nxt_mem (l : List Int) (s : Rd) : (nxt l s).2.mem = s.mem := by
  unfold nxt
  split
  · rfl
  · split <;> rfl
theorem rReg_mem (s : Rd) (n x : Int) : (rReg s n x).2.mem = s.mem := by
  unfold rReg
  simp only []
  split <;> rfl
theorem numLoop_mem (l : List Int) : ∀ (n i : Nat) (v : Int) (s : Rd), (numLoop l n i v s).2.mem = s.mem
  | 0, _, _, _ => rfl
  | n + 1, i, v, s => by rw [numLoop, numLoop_mem l n, nxt_mem]
theorem rEarly_mem (s : Rd) (sp : Spec) : (rEarly s sp).mem = s.mem := by
  unfold rEarly
  split
  · exact rReg_mem _ _ _
  split
  · exact rReg_mem _ _ _
  split <;> rfl
theorem rOperand_mem (l : List Int) (s : Rd) (sp : Spec) (op : Int) : (rOperand l s sp op).2.mem = s.mem := by
  unfold rOperand
  split
  · exact rReg_mem _ _ _
  split
  · split
    · exact rReg_mem _ _ _
    · rfl
  split
  · exact rReg_mem _ _ _
  split
  · exact rReg_mem _ _ _
  split
  · exact numLoop_mem l _ _ _ _
  split <;> rfl
theorem rHead_mem (l : List Int) (s : Rd) : (rHead l s).2.2.mem = s.mem := by
  have h2 : (hd2 l (nxt l s)).2.mem = s.mem := by
    unfold hd2
    split
    · rw [nxt_mem]; exact nxt_mem l s
    · exact nxt_mem l s
  have h3 : (hd3 l (hd2 l (nxt l s))).2.mem = s.mem := by
    unfold hd3
    split
    · rw [nxt_mem]; exact h2
    · exact h2
  unfold rHead
  split
  · rw [nxt_mem]; exact h3
  · exact h3
theorem rPlace_okM {l : List Int} (hl : isBytes l) (s : Rd) (hs : s.ok) : (rPlace l s).mem.okM := by
  have b1 := rBit_range s.rex 1
  have b2 := rBit_range s.rex 2
  have f0 := hs.form0
  have hn := nxt_range hl s
  have hO : (plO s).okM := by
    refine ⟨rfl, ?_, ?_⟩
    · show rBit s.rex 1 + s.form % 8 < 16; omega
    · show (-1 : Int) < 16; omega
  have hO2 : (plO2 l s).okM := by
    unfold plO2
    split
    · refine ⟨rfl, ?_, ?_⟩
      · show rBit s.rex 1 + (nxt l s).1 % 8 < 16; omega
      · show rBit s.rex 2 + (nxt l s).1 / 8 % 8 < 16; omega
    · refine ⟨rfl, ?_, hO.2.2⟩
      show rBit s.rex 1 + (nxt l s).1 % 8 < 16; omega
  have hA : (plA l s).2.1.okM := by
    unfold plA
    split
    · split
      · exact ⟨hO2.1, (by show (-1 : Int) < 16; omega), hO2.2.2⟩
      · exact hO2
    · exact hO
  have hB : (plB s (plA l s)).2.1.okM := by
    unfold plB
    split
    · exact ⟨hA.1, (by show (-1 : Int) < 16; omega), hA.2.2⟩
    · exact hA
  show (plC l (plB s (plA l s))).2.1.okM
  unfold plC
  split
  · exact hB
  · exact hB
theorem dForm_okM {l : List Int} (hl : isBytes l) {op : Int} {two : Bool} {wd : Int} {x : Row} {s : Rd} (hs : s.ok) (hm : s.mem.okM) : (dForm l op two wd x s).2.mem.okM := by
  unfold dForm
  split
  · have h1 : (dRow op two wd x (dPut l s)).2.mem = s.mem := by
      unfold dRow
      split
      · show (rEarly _ _).mem = _
        rw [rEarly_mem, rEarly_mem]
        unfold dMark
        split
        · exact nxt_mem l s
        · exact nxt_mem l s
      · exact nxt_mem l s
    show (dPl l (dRow op two wd x (dPut l s)).2).mem.okM
    unfold dPl
    split
    · exact rPlace_okM hl _ ((dRow_keep op two wd x (dPut l s)).ok (dPut_ok hl hs))
    · rw [h1]; exact hm
  · exact hm
theorem o0_ok : o0.ok := ⟨by decide, by decide, by decide, by decide, .inl rfl⟩
theorem rOperand_ok {l : List Int} {s : Rd} {sp : Spec} {op : Int} (hs : s.ok) (hm : s.mem.okM) (ho : 0 ≤ op) (hsp : spW sp = true) : (rOperand l s sp op).1.ok := by
  have b1 := rBit_range s.rex 1
  have b4 := rBit_range s.rex 4
  have f0 := hs.form0
  simp only [spW, Bool.and_eq_true, Bool.or_eq_true, decide_eq_true_eq, beq_iff_eq] at hsp
  obtain ⟨⟨n0, n1⟩, hw'⟩ := hsp
  have hw : sp.width = 0 ∨ sp.width = 1 ∨ sp.width = 4 ∨ sp.width = 8 := by rcases hw' with ((h | h) | h) | h <;> simp [h]
  unfold rOperand
  split
  · exact ⟨by show 0 ≤ rBit s.rex 4 + s.form / 8 % 8; omega, by show rBit s.rex 4 + s.form / 8 % 8 < 16; omega, (by show (0 : Int) < 16; omega), (by show (0 : Int) < 16; omega), hw⟩
  split
  · split
    · exact ⟨by show 0 ≤ rBit s.rex 1 + s.form % 8; omega, by show rBit s.rex 1 + s.form % 8 < 16; omega, (by show (0 : Int) < 16; omega), (by show (0 : Int) < 16; omega), hw⟩
    · exact ⟨by show 0 ≤ s.mem.reg; rw [hm.1]; omega, by show s.mem.reg < 16; rw [hm.1]; omega, hm.2.1, hm.2.2, hw⟩
  split
  · exact ⟨by show 0 ≤ rBit s.rex 1 + op % 8; omega, by show rBit s.rex 1 + op % 8 < 16; omega, (by show (0 : Int) < 16; omega), (by show (0 : Int) < 16; omega), hw⟩
  split
  · exact ⟨n0, by show sp.n < 16; omega, (by show (0 : Int) < 16; omega), (by show (0 : Int) < 16; omega), hw⟩
  split
  · exact ⟨by show (0 : Int) ≤ 0; omega, by show (0 : Int) < 16; omega, (by show (0 : Int) < 16; omega), (by show (0 : Int) < 16; omega), hw⟩
  split
  · exact ⟨by show (0 : Int) ≤ 0; omega, by show (0 : Int) < 16; omega, (by show (0 : Int) < 16; omega), (by show (0 : Int) < 16; omega), hw⟩
  · exact o0_ok
theorem rReg_width (s : Rd) (n x : Int) : (rReg s n x).1.width = x := rfl
theorem rOperand_width {l : List Int} {s : Rd} {sp : Spec} {op : Int} (h1 : 1 ≤ sp.kind) (h7 : sp.kind ≤ 7) : (rOperand l s sp op).1.width = sp.width := by
  unfold rOperand
  split
  · rfl
  split
  · split <;> rfl
  split
  · rfl
  split
  · rfl
  split
  · rfl
  split
  · rfl
  · omega
theorem dOps_ok {l : List Int} {op : Int} {p : Row × Rd} (ho : 0 ≤ op) (hs : p.2.ok) (hm : p.2.mem.okM) (hp : rowW p.1 = true) (h : (dOps l op p).1 = none) :
    (dOps l op p).2.ok ∧ ((isBin (dOps l op p).2.op || isUn (dOps l op p).2.op) = true → 1 ≤ (dOps l op p).2.a.width) := by
  simp only [rowW, Bool.and_eq_true, Bool.or_eq_true, decide_eq_true_eq] at hp
  obtain ⟨⟨⟨ha, hb⟩, hc⟩, hd⟩ := hp
  unfold dOps at h ⊢
  split at h
  · cases h
  · rename_i e
    have kA := rOperand_keep l p.2 p.1.a op
    have kB := rOperand_keep l (rOperand l p.2 p.1.a op).2 p.1.b op
    have mA := rOperand_mem l p.2 p.1.a op
    have mB := rOperand_mem l (rOperand l p.2 p.1.a op).2 p.1.b op
    refine ⟨⟨rOperand_ok hs hm ho ha, rOperand_ok (kA.ok hs) (by rw [mA]; exact hm) ho hb, rOperand_ok (kB.ok (kA.ok hs)) (by rw [mB, mA]; exact hm) ho hc⟩, fun hx => ?_⟩
    rcases hd with hd | hd
    · simp only [] at hx
      rw [hx] at hd
      cases hd
    · show 1 ≤ (rOperand l p.2 p.1.a op).1.width
      rw [rOperand_width hd.1.2 hd.2]
      exact hd.1.1
theorem rDecode_ok {l : List Int} (hl : isBytes l) (h : (rDecode l).1 = none) : (rDecode l).2.ok ∧ ((isBin (rDecode l).2.op || isUn (rDecode l).2.op) = true → 1 ≤ (rDecode l).2.a.width) := by
  unfold rDecode rDecodeAt at h ⊢
  split
  · rename_i c
    rw [if_pos c] at h
    unfold dNop at h ⊢
    split at h
    · cases h
    · rename_i e
      exact ⟨⟨o0_ok, o0_ok, o0_ok⟩, fun hx => by simp [isBin, isUn] at hx⟩
  · rename_i c
    rw [if_neg c] at h
    have hk := rHead_keep hl d0 ⟨by decide, by decide⟩
    have hop := rHead_range hl d0
    have hmm : (rHead l d0).2.2.mem.okM := by rw [rHead_mem]; exact ⟨rfl, by decide, by decide⟩
    have hs1 : (rHead l d0).2.2.ok := ⟨hk.2.1, hk.2.2, by rw [hk.1.form]; decide, by rw [hk.1.form]; decide⟩
    generalize (rHead l d0).1 = op at *
    generalize (rHead l d0).2.1 = two at *
    generalize (rHead l d0).2.2 = s1 at *
    unfold dBody at h ⊢
    split at h
    · cases h
    · rename_i e
      split at h
      · cases h
      · rename_i c2
        rw [if_neg c2]
        have hwd := dW_or s1
        have k2 := dLow_keep op (rAny two op (dW s1)).1 s1
        have m2 : (dLow op (rAny two op (dW s1)).1 s1).mem = s1.mem := by
          unfold dLow
          split
          · exact rReg_mem _ _ _
          · rfl
        exact dOps_ok hop.1 (dForm_ok hl (k2.ok hs1)) (dForm_okM hl (k2.ok hs1) (by rw [m2]; exact hmm)) (dForm_W hl hop.1 hop.2 hwd (k2.ok hs1) (anyFrom_W hop.1 hop.2 hwd 8 0 (by omega))) h
end Go.Sk
