/- Contracts of the layer decode (seat Z): Decode; what a reader keeps. -/
import Derived.Test.YtnkdccidhjifmaaGreatCj
set_option linter.unusedVariables false
set_option linter.unusedSimpArgs false
namespace Go.Sk
open Go.RowKit Go.Proofs
variable {w0 w : World} {F : Asrt} {R : Ending → World → Prop}
/-! ### The slice beside -/
def Rd.re (s t : Rd) : Rd := { s with a := t.a, n := t.n, c := t.c }
theorem re_self (s : Rd) : s.re s = s := rfl
theorem nxt_re (l : List Int) (s t : Rd) : nxt l (s.re t) = ((nxt l s).1, (nxt l s).2.re t) := by
  unfold nxt
  by_cases h1 : s.bad.isSome
  · rw [if_pos h1, if_pos (show (s.re t).bad.isSome = true from h1)]
  · rw [if_neg h1, if_neg (show ¬ (s.re t).bad.isSome = true from h1)]
    by_cases h2 : l.length ≤ s.at'
    · rw [if_pos h2, if_pos (show l.length ≤ (s.re t).at' from h2)]; rfl
    · rw [if_neg h2, if_neg (show ¬ l.length ≤ (s.re t).at' from h2)]; rfl
theorem failS_re (s t : Rd) : failS (s.re t) = (failS s).re t := rfl
theorem rReg_re (s t : Rd) (n x : Int) : rReg (s.re t) n x = ((rReg s n x).1, (rReg s n x).2.re t) := by
  unfold rReg
  by_cases h : x = 1 ∧ 4 ≤ n ∧ n ≤ 7 ∧ s.ext = false
  · rw [if_pos h, if_pos (show x = 1 ∧ 4 ≤ n ∧ n ≤ 7 ∧ (s.re t).ext = false from h)]; rfl
  · rw [if_neg h, if_neg (show ¬ (x = 1 ∧ 4 ≤ n ∧ n ≤ 7 ∧ (s.re t).ext = false) from h)]
theorem numLoop_re (l : List Int) (t : Rd) : ∀ (n i : Nat) (v : Int) (s : Rd), numLoop l n i v (s.re t) = ((numLoop l n i v s).1, (numLoop l n i v s).2.re t)
  | 0, _, _, _ => rfl
  | n + 1, i, v, s => by rw [numLoop, numLoop, nxt_re, numLoop_re l t n]
theorem rNum_re (l : List Int) (s t : Rd) (n : Nat) : rNum l (s.re t) n = ((rNum l s n).1, (rNum l s n).2.re t) := by
  unfold rNum
  rw [numLoop_re]
theorem hd2_re (l : List Int) (p : Int × Rd) (t : Rd) : hd2 l (p.1, p.2.re t) = ((hd2 l p).1, (hd2 l p).2.re t) := by
  unfold hd2
  by_cases h : p.1 = 100
  · simp only [if_pos h]
    exact nxt_re l { p.2 with seg := true } t
  · simp only [if_neg h]
theorem hd3_re (l : List Int) (p : Int × Rd) (t : Rd) : hd3 l (p.1, p.2.re t) = ((hd3 l p).1, (hd3 l p).2.re t) := by
  unfold hd3
  by_cases h : 64 ≤ p.1 ∧ p.1 < 80
  · simp only [if_pos h]
    exact nxt_re l { p.2 with ext := true, rex := p.1 % 16 } t
  · simp only [if_neg h]
theorem rHead_re (l : List Int) (s t : Rd) : rHead l (s.re t) = ((rHead l s).1, (rHead l s).2.1, (rHead l s).2.2.re t) := by
  unfold rHead
  rw [nxt_re, hd2_re, hd3_re]
  simp only [nxt_re]
  split <;> rfl
theorem rEarly_re (s t : Rd) (sp : Spec) : rEarly (s.re t) sp = (rEarly s sp).re t := by
  unfold rEarly
  simp only [rReg_re, failS_re, show (s.re t).rex = s.rex from rfl, show (s.re t).form = s.form from rfl]
  split
  · rfl
  · split
    · rfl
    · split <;> rfl
theorem plA_re (l : List Int) (s t : Rd) : plA l (s.re t) = ((plA l s).1, (plA l s).2.1, (plA l s).2.2.re t) := by
  unfold plA plO2 plO
  simp only [nxt_re, show (s.re t).rex = s.rex from rfl, show (s.re t).form = s.form from rfl, show (s.re t).seg = s.seg from rfl]
  split
  · split <;> rfl
  · rfl
theorem plB_re (s t : Rd) (p : Int × Opn × Rd) : plB (s.re t) (p.1, p.2.1, p.2.2.re t) = ((plB s p).1, (plB s p).2.1, (plB s p).2.2.re t) := by
  unfold plB
  simp only [show (s.re t).form = s.form from rfl]
  split <;> rfl
theorem plC_re (l : List Int) (t : Rd) (p : Int × Opn × Rd) : plC l (p.1, p.2.1, p.2.2.re t) = ((plC l p).1, (plC l p).2.1, (plC l p).2.2.re t) := by
  unfold plC
  simp only [rNum_re]
  split <;> rfl
theorem rPlace_re (l : List Int) (s t : Rd) : rPlace l (s.re t) = (rPlace l s).re t := by
  unfold rPlace
  rw [plA_re, plB_re, plC_re]
  rfl
theorem rOperand_re (l : List Int) (s t : Rd) (sp : Spec) (op : Int) : rOperand l (s.re t) sp op = ((rOperand l s sp op).1, (rOperand l s sp op).2.re t) := by
  unfold rOperand
  simp only [rReg_re, rNum_re, show (s.re t).rex = s.rex from rfl, show (s.re t).form = s.form from rfl, show (s.re t).mem = s.mem from rfl]
  split
  · rfl
  split
  · split <;> rfl
  split
  · rfl
  split
  · rfl
  split
  · rfl
  split <;> rfl
theorem nopStep_re (l : List Int) (s t : Rd) (c : Int) : nopStep l (s.re t) c = (nopStep l s c).re t := by
  unfold nopStep
  simp only [nxt_re, failS_re]
  split <;> rfl
theorem nopFrom_re (l : List Int) (t : Rd) : ∀ (n i : Nat) (s : Rd), nopFrom l n i (s.re t) = (nopFrom l n i s).re t
  | 0, _, _ => rfl
  | n + 1, i, s => by rw [nopFrom, nopFrom, nopStep_re, nopFrom_re l t n]
/-! ### What stands ahead -/
structure Keep (s s' : Rd) : Prop where
  a : s'.a = s.a
  n : s'.n = s.n
  c : s'.c = s.c
  rex : s'.rex = s.rex
  form : s'.form = s.form
  seg : s'.seg = s.seg
theorem Keep.refl (s : Rd) : Keep s s := ⟨rfl, rfl, rfl, rfl, rfl, rfl⟩
theorem Keep.trans {s s' s'' : Rd} (h : Keep s s') (k : Keep s' s'') : Keep s s'' :=
  ⟨k.a.trans h.a, k.n.trans h.n, k.c.trans h.c, k.rex.trans h.rex, k.form.trans h.form, k.seg.trans h.seg⟩
theorem Keep.ok {s s' : Rd} (h : Keep s s') (k : s.ok) : s'.ok := ⟨by rw [h.rex]; exact k.1, by rw [h.rex]; exact k.2, by rw [h.form]; exact k.3, by rw [h.form]; exact k.4⟩
theorem nxt_keep (l : List Int) (s : Rd) : Keep s (nxt l s).2 := by
  unfold nxt
  split
  · exact .refl s
  · split <;> exact ⟨rfl, rfl, rfl, rfl, rfl, rfl⟩
theorem failS_keep (s : Rd) : Keep s (failS s) := ⟨rfl, rfl, rfl, rfl, rfl, rfl⟩
theorem rReg_keep (s : Rd) (n x : Int) : Keep s (rReg s n x).2 := by
  unfold rReg
  simp only []
  split
  · exact failS_keep s
  · exact .refl s
theorem numLoop_keep (l : List Int) : ∀ (n i : Nat) (v : Int) (s : Rd), Keep s (numLoop l n i v s).2
  | 0, _, _, s => .refl s
  | n + 1, i, v, s => by rw [numLoop]; exact (nxt_keep l s).trans (numLoop_keep l n _ _ _)
theorem rNum_keep (l : List Int) (s : Rd) (n : Nat) : Keep s (rNum l s n).2 := numLoop_keep l n 0 0 s
theorem rEarly_keep (s : Rd) (sp : Spec) : Keep s (rEarly s sp) := by
  unfold rEarly
  split
  · exact rReg_keep _ _ _
  split
  · exact rReg_keep _ _ _
  split
  · exact failS_keep s
  · exact .refl s
theorem plA_keep (l : List Int) (s : Rd) : Keep s (plA l s).2.2 := by
  unfold plA
  split
  · split <;> exact nxt_keep l s
  · exact .refl s
theorem rPlace_keep (l : List Int) (s : Rd) : Keep s (rPlace l s) := by
  have h : Keep s (plC l (plB s (plA l s))).2.2 := by
    have h2 : Keep s (plB s (plA l s)).2.2 := by
      unfold plB
      split <;> exact plA_keep l s
    unfold plC
    split
    · exact h2.trans (rNum_keep l _ _)
    · exact h2
  exact ⟨h.a, h.n, h.c, h.rex, h.form, h.seg⟩
theorem rOperand_keep (l : List Int) (s : Rd) (sp : Spec) (op : Int) : Keep s (rOperand l s sp op).2 := by
  unfold rOperand
  split
  · exact rReg_keep _ _ _
  split
  · split
    · exact rReg_keep _ _ _
    · exact .refl s
  split
  · exact rReg_keep _ _ _
  split
  · exact rReg_keep _ _ _
  split
  · exact rNum_keep l s _
  split <;> exact .refl s
theorem nopFrom_keep (l : List Int) : ∀ (n i : Nat) (s : Rd), Keep s (nopFrom l n i s)
  | 0, _, s => .refl s
  | n + 1, i, s => by
    rw [nopFrom]
    refine Keep.trans ?_ (nopFrom_keep l n _ _)
    unfold nopStep
    split
    · exact nxt_keep l s
    · exact (nxt_keep l s).trans (failS_keep _)
/-- .. but for the extension. -/
structure Keep' (s s' : Rd) : Prop where
  a : s'.a = s.a
  n : s'.n = s.n
  c : s'.c = s.c
  form : s'.form = s.form
theorem Keep.to {s s' : Rd} (h : Keep s s') : Keep' s s' := ⟨h.a, h.n, h.c, h.form⟩
theorem Keep'.trans {s s' s'' : Rd} (h : Keep' s s') (k : Keep' s' s'') : Keep' s s'' := ⟨k.a.trans h.a, k.n.trans h.n, k.c.trans h.c, k.form.trans h.form⟩
theorem hd2_keep (l : List Int) (p : Int × Rd) : Keep p.2 (hd2 l p).2 ∨ Keep { p.2 with seg := true } (hd2 l p).2 := by
  unfold hd2
  split
  · exact .inr (nxt_keep l _)
  · exact .inl (.refl _)
theorem rHead_keep {l : List Int} (hl : isBytes l) (s : Rd) (h0 : 0 ≤ s.rex ∧ s.rex < 16) : Keep' s (rHead l s).2.2 ∧ 0 ≤ (rHead l s).2.2.rex ∧ (rHead l s).2.2.rex < 16 := by
  have k1 := nxt_keep l s
  have k2 : Keep' s (hd2 l (nxt l s)).2 ∧ (hd2 l (nxt l s)).2.rex = s.rex := by
    rcases hd2_keep l (nxt l s) with h | h
    · exact ⟨k1.to.trans h.to, h.rex.trans k1.rex⟩
    · exact ⟨k1.to.trans ⟨h.a, h.n, h.c, h.form⟩, h.rex.trans k1.rex⟩
  have k3 : Keep' s (hd3 l (hd2 l (nxt l s))).2 ∧ 0 ≤ (hd3 l (hd2 l (nxt l s))).2.rex ∧ (hd3 l (hd2 l (nxt l s))).2.rex < 16 := by
    unfold hd3
    split
    · have := nxt_keep l { (hd2 l (nxt l s)).2 with ext := true, rex := (hd2 l (nxt l s)).1 % 16 }
      refine ⟨k2.1.trans ⟨this.a, this.n, this.c, this.form⟩, ?_⟩
      rw [this.rex]
      simp only []
      omega
    · exact ⟨k2.1, by rw [k2.2]; exact h0⟩
  unfold rHead
  split
  · have := nxt_keep l (hd3 l (hd2 l (nxt l s))).2
    refine ⟨k3.1.trans this.to, ?_⟩
    simp only []
    rw [this.rex]
    exact k3.2
  · exact k3
theorem rHead_range {l : List Int} (hl : isBytes l) (s : Rd) : 0 ≤ (rHead l s).1 ∧ (rHead l s).1 < 256 := by
  unfold rHead
  split
  · exact nxt_range hl _
  · exact hd3_range hl (hd2_range hl (nxt_range hl s))
/-! ### Decode -/
def d0 : Rd := ⟨none, 0, 0, 0, none, false, false, 0, 0, o0⟩
def i0 : Ins := ⟨0, 0, 0, o0, o0, o0⟩
def dW (s : Rd) : Int := if rBit s.rex 8 = 8 then 8 else 4
def dRef (op : Int) (two : Bool) (s : Rd) (x : Row × Bool) : Bool := !x.2 || (s.seg && (!x.1.form || x.1.op == 9)) || (!two && op == 144 && rBit s.rex 1 == 8)
def dLow (op : Int) (x : Row) (s : Rd) : Rd := if x.a.kind = 4 then (rReg s (rBit s.rex 1 + op % 8) x.a.width).2 else s
def dMark (y : Row × Bool) (s : Rd) : Rd := if (!y.2 || (s.seg && s.form / 64 == 3)) = true then failS s else s
def dRow (op : Int) (two : Bool) (w : Int) (x : Row) (s : Rd) : Row × Rd :=
  if s.bad.isNone then ((rRowOf two op w (s.form / 8 % 8)).1, rEarly (rEarly (dMark (rRowOf two op w (s.form / 8 % 8)) s) (rRowOf two op w (s.form / 8 % 8)).1.a) (rRowOf two op w (s.form / 8 % 8)).1.b)
  else (x, s)
def dPut (l : List Int) (s : Rd) : Rd := { (nxt l s).2 with form := (nxt l s).1 }
def dPl (l : List Int) (s : Rd) : Rd := if s.bad.isNone && decide (s.form / 64 < 3) then rPlace l s else s
def dForm (l : List Int) (op : Int) (two : Bool) (w : Int) (x : Row) (s : Rd) : Row × Rd :=
  if x.form = true then ((dRow op two w x (dPut l s)).1, dPl l (dRow op two w x (dPut l s)).2) else (x, s)
def dOps (l : List Int) (op : Int) (p : Row × Rd) : Option Int × Ins :=
  match (rOperand l (rOperand l (rOperand l p.2 p.1.a op).2 p.1.b op).2 p.1.c op).2.bad with
  | some e => (some e, i0)
  | none => (none, ⟨p.1.op, (rOperand l (rOperand l (rOperand l p.2 p.1.a op).2 p.1.b op).2 p.1.c op).2.at', p.1.cond, (rOperand l p.2 p.1.a op).1, (rOperand l (rOperand l p.2 p.1.a op).2 p.1.b op).1, (rOperand l (rOperand l (rOperand l p.2 p.1.a op).2 p.1.b op).2 p.1.c op).1⟩)
def dBody (l : List Int) (op : Int) (two : Bool) (s : Rd) : Option Int × Ins :=
  match s.bad with
  | some e => (some e, i0)
  | none => if dRef op two s (rAny two op (dW s)) = true then (some 13, i0) else dOps l op (dForm l op two (dW s) (rAny two op (dW s)).1 (dLow op (rAny two op (dW s)).1 s))
def dNop (s : Rd) : Option Int × Ins := match s.bad with | some e => (some e, i0) | none => (none, ⟨29, 4, 0, o0, o0, o0⟩)
def rDecodeAt (l : List Int) (s : Rd) : Option Int × Ins :=
  if (decide (0 < l.length) && l.getD 0 0 == 243) = true then dNop (rNop l { s with at' := 1 }) else dBody l (rHead l s).1 (rHead l s).2.1 (rHead l s).2.2
def rDecode (l : List Int) : Option Int × Ins := rDecodeAt l d0
theorem dPut_re (l : List Int) (s t : Rd) : dPut l (s.re t) = (dPut l s).re t := by
  unfold dPut; rw [nxt_re]; rfl
theorem dMark_re (y : Row × Bool) (s t : Rd) : dMark y (s.re t) = (dMark y s).re t := by
  unfold dMark
  simp only [show (s.re t).seg = s.seg from rfl, show (s.re t).form = s.form from rfl, failS_re]
  split <;> rfl
theorem dRow_re (op : Int) (two : Bool) (w : Int) (x : Row) (s t : Rd) : dRow op two w x (s.re t) = ((dRow op two w x s).1, (dRow op two w x s).2.re t) := by
  unfold dRow
  simp only [show (s.re t).bad = s.bad from rfl, show (s.re t).form = s.form from rfl, dMark_re, rEarly_re]
  split <;> rfl
theorem dPl_re (l : List Int) (s t : Rd) : dPl l (s.re t) = (dPl l s).re t := by
  unfold dPl
  simp only [show (s.re t).bad = s.bad from rfl, show (s.re t).form = s.form from rfl, rPlace_re]
  split <;> rfl
theorem dForm_re (l : List Int) (op : Int) (two : Bool) (w : Int) (x : Row) (s t : Rd) : dForm l op two w x (s.re t) = ((dForm l op two w x s).1, (dForm l op two w x s).2.re t) := by
  unfold dForm
  simp only [dPut_re, dRow_re, dPl_re]
  split <;> rfl
theorem dOps_re (l : List Int) (op : Int) (p : Row × Rd) (t : Rd) : dOps l op (p.1, p.2.re t) = dOps l op p := by
  unfold dOps
  simp only [rOperand_re]
  rfl
theorem dLow_re (op : Int) (x : Row) (s t : Rd) : dLow op x (s.re t) = (dLow op x s).re t := by
  unfold dLow
  simp only [rReg_re, show (s.re t).rex = s.rex from rfl]
  split <;> rfl
theorem dBody_re (l : List Int) (op : Int) (two : Bool) (s t : Rd) : dBody l op two (s.re t) = dBody l op two s := by
  unfold dBody
  simp only [dLow_re, dForm_re, dOps_re, show dW (s.re t) = dW s from rfl, show (s.re t).bad = s.bad from rfl, show ∀ x, dRef op two (s.re t) x = dRef op two s x from fun _ => rfl]
theorem rDecode_re (l : List Int) (s t : Rd) : rDecodeAt l (s.re t) = rDecodeAt l s := by
  unfold rDecodeAt
  rw [rHead_re]
  simp only [dBody_re]
  split
  · have e : rNop l { s.re t with at' := 1 } = (rNop l { s with at' := 1 }).re t := nopFrom_re l t 3 0 { s with at' := 1 }
    rw [e]
    rfl
  · rfl
end Go.Sk
