/- Registers compared (seat Z). -/
import Derived.Test.YtnkdccidhjifmaaGreatDd
import Derived.Laws.StructEq
set_option linter.unusedVariables false
set_option linter.unusedSimpArgs false
namespace Go.Sk
open Go.RowKit Go.Proofs
theorem run_eqArr {P : Program} (w : World) (d : Nat) (t elem : TypeId) (len n : Nat) (xs ys : Array Value) (ht : P.underlying t = some (.array len elem)) (hs : (sizeOf elem).run P w = .ok n w)
    (f : Nat → Bool) (h : ∀ i, i < len → ∃ a b, (part elem xs (i * n)).run P w = .ok a w ∧ (part elem ys (i * n)).run P w = .ok b w ∧ (Op.equalIn d elem a b).run P w = .ok (f i) w) :
    (Op.equalIn (d + 1) t (.agg xs) (.agg ys)).run P w = .ok ((List.range' 0 len).all f) w := by
  simp only [Op.equalIn, Sem.run_bind, run_underlying ht, Result.andThen_ok, hs]
  simp only [Std.Legacy.Range.forIn_eq_forIn_range', Std.Legacy.Range.size, Nat.sub_zero, Nat.add_sub_cancel, Nat.div_one]
  have hl : ∀ i ∈ List.range' 0 len, i < len := fun i hi => by rw [List.mem_range'_1] at hi; omega
  generalize List.range' 0 len = l at hl ⊢
  induction l with
  | nil => simp
  | cons i l ih =>
    obtain ⟨a, b, h1, h2, h3⟩ := h i (hl i (.head _))
    have ih' := ih fun j hj => hl j (.tail _ hj)
    simp only [List.forIn_cons, Sem.run_bind, h1, h2, h3, Result.andThen_ok, Sem.run_ite]
    cases hf : f i
    · simp [hf]
    · simp only [Bool.not_true, Bool.false_eq_true, if_false, Sem.run_pure, Result.andThen_ok, List.all_cons, hf, Bool.true_and]
      exact ih'
def Rg.arr (g : Rg) : Array Value := #[.int .u64 (g.r 0), .int .u64 (g.r 1), .int .u64 (g.r 2), .int .u64 (g.r 3), .int .u64 (g.r 4), .int .u64 (g.r 5), .int .u64 (g.r 6), .int .u64 (g.r 7), .int .u64 (g.r 8), .int .u64 (g.r 9), .int .u64 (g.r 10), .int .u64 (g.r 11), .int .u64 (g.r 12), .int .u64 (g.r 13), .int .u64 (g.r 14), .int .u64 (g.r 15)]
theorem part_R (g : Rg) (w : World) : (part 23 g.cells.toArray 0).run Tryz.prog w = .ok (.agg g.arr) w := by kernel_rfl
theorem part_IP (g : Rg) (w : World) : (part 22 g.cells.toArray 16).run Tryz.prog w = .ok (.int .u64 g.ip) w := by kernel_rfl
theorem part_FS (g : Rg) (w : World) : (part 22 g.cells.toArray 17).run Tryz.prog w = .ok (.int .u64 g.fs) w := by kernel_rfl
theorem part_CF (g : Rg) (w : World) : (part 4 g.cells.toArray 18).run Tryz.prog w = .ok (.bool g.cf) w := by kernel_rfl
theorem part_ZF (g : Rg) (w : World) : (part 4 g.cells.toArray 19).run Tryz.prog w = .ok (.bool g.zf) w := by kernel_rfl
theorem part_SF (g : Rg) (w : World) : (part 4 g.cells.toArray 20).run Tryz.prog w = .ok (.bool g.sf) w := by kernel_rfl
theorem part_OF (g : Rg) (w : World) : (part 4 g.cells.toArray 21).run Tryz.prog w = .ok (.bool g.of) w := by kernel_rfl
theorem part_PF (g : Rg) (w : World) : (part 4 g.cells.toArray 22).run Tryz.prog w = .ok (.bool g.pf) w := by kernel_rfl
theorem part_r (g : Rg) (w : World) {i : Nat} (h : i < 16) : (part 22 g.arr (i * 1)).run Tryz.prog w = .ok (.int .u64 (g.r i)) w := by
  rcases i with _ | _ | _ | _ | _ | _ | _ | _ | _ | _ | _ | _ | _ | _ | _ | _ | i
  all_goals first | omega | kernel_rfl
def regEq (g g' : Rg) : Bool := (List.range' 0 16).all (fun i => g.r i == g'.r i) && (g.ip == g'.ip && (g.fs == g'.fs && (g.cf == g'.cf && (g.zf == g'.zf && (g.sf == g'.sf && (g.of == g'.of && g.pf == g'.pf))))))
theorem eq_regsD (d : Nat) (g g' : Rg) (w : World) : (Op.equalIn (d + 3) 25 g.val g'.val).run Tryz.prog w = .ok (regEq g g') w := by
  have u4 := Tryz.underlying4
  have hA : (Op.equalIn (d + 2) 23 (.agg g.arr) (.agg g'.arr)).run Tryz.prog w = .ok ((List.range' 0 16).all fun i => g.r i == g'.r i) w :=
    run_eqArr w (d + 1) 23 22 16 1 _ _ Tryz.underlying23 (Tryz.sizeOf22 w) _ fun i hi => ⟨_, _, part_r g w hi, part_r g' w hi, run_equalIn_int w d 22 .u64 .u64 _ _ Tryz.underlying22⟩
  have hS : Tryz.prog.underlying 25 = some (.struct (Tryz.prog.fieldsOf 25)) := by kernel_rfl
  have hp : Tryz.prog.stoodInHeld 25 = false := by kernel_rfl
  have hi : ∀ (a b : Int), (Op.equalIn (d + 2) 22 (.int .u64 a) (.int .u64 b)).run Tryz.prog w = .ok (a == b) w := fun a b => run_equalIn_int w (d + 1) 22 .u64 .u64 a b Tryz.underlying22
  have hb : ∀ (a b : Bool), (Op.equalIn (d + 2) 4 (.bool a) (.bool b)).run Tryz.prog w = .ok (a == b) w := fun a b => run_equalIn_bool' w (d + 1) 4 a b u4
  show (Op.equalIn (d + 2 + 1) 25 (.agg g.cells.toArray) (.agg g'.cells.toArray)).run Tryz.prog w = _
  rw [run_equalIn_struct w (d + 2) 25 _ _ hS hp]
  simp only [Program.fieldsOf, Tryz.underlying25, Op.eqFields, Sem.run_bind, Sem.run_ite, part_R, part_IP, part_FS, part_CF, part_ZF, part_SF, part_OF, part_PF, Result.andThen_ok, hA, hi, hb, Sem.run_pure]
  unfold regEq
  generalize ((List.range' 0 16).all fun i => g.r i == g'.r i) = c0
  generalize (g.ip == g'.ip) = c1
  generalize (g.fs == g'.fs) = c2
  generalize (g.cf == g'.cf) = c3
  generalize (g.zf == g'.zf) = c4
  generalize (g.sf == g'.sf) = c5
  generalize (g.of == g'.of) = c6
  generalize (g.pf == g'.pf) = c7
  cases c0 <;> cases c1 <;> cases c2 <;> cases c3 <;> cases c4 <;> cases c5 <;> cases c6 <;> cases c7 <;> simp
theorem eq_regs (x y : Operand) (g g' : Rg) (w : World) : eqRun Tryz.prog .eql 25 x y g.val g'.val w (regEq g g') := by
  have hm : Tryz.prog.eqGuardType Tryz.prog.depth 25 = false := by kernel_rfl
  unfold eqRun
  have e1 : (eqGuard .eql 25 x y g.val g'.val).run Tryz.prog w = .ok () w := run_eqGuard_agg w .eql 25 x y _ _ hm
  have e2 : (binOp .eql 25 g.val g'.val).run Tryz.prog w = .ok (.bool (regEq g g')) w := by
    show (binOp .eql 25 (.agg g.cells.toArray) (.agg g'.cells.toArray)).run Tryz.prog w = _
    rw [run_eql_struct]
    have := eq_regsD 9997 g g' w
    rw [show (10000 : Nat) = 9997 + 3 from rfl]
    unfold Rg.val at this
    rw [this]
    rfl
  simp [e1, e2]
theorem regEq_self (g : Rg) : regEq g g = true := by simp [regEq]
end Go.Sk
