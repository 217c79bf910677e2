/- Contracts of the layer exec (seat Z): errors compared; what changes nothing. -/
import Derived.Test.YtnkdccidhjifmaaGreatDc
import Derived.LaidEql
set_option linter.unusedVariables false
set_option linter.unusedSimpArgs false
namespace Go.Sk
open Go.RowKit Go.Proofs
variable {w0 w : World} {F G : Asrt} {R : Ending → World → Prop}
variable {T : TypeId} {b m r : Nat} {q : Int} {ps : List Pg} {p : Pr}
/-! ### Two errors -/
theorem u33 : ∃ ms, Tryz.prog.underlying 33 = some (.interface ms) := by
  have h : (match Tryz.prog.underlying 33 with | some (.interface _) => true | _ => false) = true := by kernel_rfl
  split at h
  · rename_i ms e
    exact ⟨ms, e⟩
  · cases h
theorem u37 : Tryz.prog.underlying 37 = some (.int .i64) := by kernel_rfl
theorem c37 : (Tryz.prog.info? 37).map (fun i => i.comparable) = some true := by kernel_rfl
theorem eq_codeD (dd : Nat) (c d : Int) (w : World) : (Op.equalIn (dd + 2) 33 (.iface 37 (.int .i64 c)) (.iface 37 (.int .i64 d))).run Tryz.prog w = .ok (c == d) w := by
  obtain ⟨ms, hi⟩ := u33
  have hn := u37
  obtain ⟨i, hinfo, hcomp⟩ := Option.map_eq_some_iff.1 c37
  simp [Op.equalIn, run_underlying hi, run_underlying hn, typeInfo, hinfo, hcomp]
theorem eq_code (x y : Operand) (c d : Int) (w : World) : eqRun Tryz.prog .eql 33 x y (.iface 37 (.int .i64 c)) (.iface 37 (.int .i64 d)) w (c == d) := by
  have e2 : (binOp .eql 33 (.iface 37 (.int .i64 c)) (.iface 37 (.int .i64 d))).run Tryz.prog w = .ok (.bool (c == d)) w := by
    simp only [binOp]
    simp [Op.equal, Op.maxDepth, eq_codeD 9998 c d w]
  unfold eqRun
  simp [eqGuard, e2]
/-! ### The memory's pointer changes nothing -/
def Pr.wm (p : Pr) (x : Option Addr) : Pr := { p with m := x }
theorem rSet_wm (p : Pr) (x : Option Addr) (o : Opn) (v : Int) : rSet (p.wm x) o v = (rSet p o v).wm x := by
  unfold rSet
  split
  · rfl
  · split <;> rfl
theorem rJump_wm (M : Mv) (p : Pr) (x : Option Addr) (o : Opn) : rJump M (p.wm x) o = ((rJump M p o).1, (rJump M p o).2.wm x) := by
  unfold rJump
  split <;> rfl
theorem mShO_wm (p : Pr) (x : Option Addr) (op c v a y : Int) (out : Bool) : mShO (p.wm x) op c v a y out = (mShO p op c v a y out).wm x := by
  unfold mShO
  split <;> rfl
theorem mShift_wm (p : Pr) (x : Option Addr) (op a c y : Int) : mShift (p.wm x) op a c y = ((mShift p op a c y).1, (mShift p op a c y).2.wm x) := by
  unfold mShift
  split
  · rfl
  · have : ∀ v o, mShP (p.wm x) v y o = (mShP p v y o).wm x := fun _ _ => rfl
    simp only [this, mShO_wm]
theorem rBin_wm (p : Pr) (x : Option Addr) (i : Ins) (a b y : Int) : rBin (p.wm x) i a b y = (rBin p i a b y).wm x := by
  unfold rBin
  simp only [mShift_wm, show ∀ a b, mSum (p.wm x) a b y = (mSum p a b y).wm x from fun _ _ => rfl, show ∀ a b, mLess (p.wm x) a b y = (mLess p a b y).wm x from fun _ _ => rfl, show ∀ a, mBit (p.wm x) a y = (mBit p a y).wm x from fun _ => rfl, rSet_wm]
  repeat (split; · rfl)
  rfl
theorem rUn_wm (p : Pr) (x : Option Addr) (i : Ins) (a y : Int) : rUn (p.wm x) i a y = (rUn p i a y).wm x := by
  unfold rUn
  simp only [show ∀ a b, mSum (p.wm x) a b y = (mSum p a b y).wm x from fun _ _ => rfl, show ∀ a b, mLess (p.wm x) a b y = (mLess p a b y).wm x from fun _ _ => rfl, rSet_wm, show ∀ (q : Pr) c, (q.wm x).cf c = (q.cf c).wm x from fun _ _ => rfl, show (p.wm x).r = p.r from rfl]
  repeat (split; · rfl)
  rfl
theorem rMove_wm (M : Mv) (p : Pr) (x : Option Addr) (i : Ins) : rMove M (p.wm x) i = ((rMove M p i).1, (rMove M p i).2.wm x) := by
  unfold rMove
  simp only [show rValue M (p.wm x) i.b = rValue M p i.b from rfl, rSet_wm, show ∀ v, mMoveV (p.wm x) i v = mMoveV p i v from fun _ => rfl]
  split <;> rfl
theorem rPop_wm (p : Pr) (x : Option Addr) (i : Ins) (v : Int) : rPop (p.wm x) i v = (rPop p i v).wm x := by
  unfold rPop
  simp only [show ∀ v, (p.wm x).set 4 v = (p.set 4 v).wm x from fun _ => rfl, rSet_wm, show (p.wm x).r = p.r from rfl]
  split <;> rfl
theorem rFlow_wm (M : Mv) (p : Pr) (x : Option Addr) (i : Ins) : rFlow M (p.wm x) i = ((rFlow M p i).1, (rFlow M p i).2.wm x) := by
  unfold rFlow
  simp only [show rValue M (p.wm x) i.a = rValue M p i.a from rfl, show (p.wm x).r = p.r from rfl, rPop_wm, rJump_wm, show ∀ (q : Pr) v, rPush (q.wm x) v = (rPush q v).wm x from fun _ _ => rfl, show ∀ v, rLeave (p.wm x) v = (rLeave p v).wm x from fun _ => rfl, show (p.wm x).next = p.next from rfl]
  split
  · split <;> rfl
  split
  · split <;> rfl
  split
  · split <;> rfl
  split
  · rfl
  split
  · split <;> rfl
  split
  · split <;> rfl
  rfl
theorem rDo_wm (M : Mv) (p : Pr) (x : Option Addr) (i : Ins) : rDo M (p.wm x) i = ((rDo M p i).1, (rDo M p i).2.wm x) := by
  unfold rDo
  simp only [show rTwo M (p.wm x) i = rTwo M p i from rfl, show rThird M (p.wm x) i = rThird M p i from rfl, show rValue M (p.wm x) i.a = rValue M p i.a from rfl, show (p.wm x).r = p.r from rfl, rBin_wm, rUn_wm, rMove_wm, rFlow_wm, rSet_wm, show mAddr (p.wm x) i.b = mAddr p i.b from rfl, show ∀ a b y, mTimes (p.wm x) a b y = (mTimes p a b y).wm x from fun _ _ _ => rfl]
  split
  · split <;> rfl
  split
  · split <;> rfl
  split
  · split <;> rfl
  split
  · rfl
  split
  · rfl
  split
  · rfl
  rfl
end Go.Sk
