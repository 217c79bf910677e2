/- The statements ExecTests and ExecNil (seat Z): the walks. -/
import Derived.Test.YtnkdccidhjifmaaGreatLd
import Derived.Test.YtnkdccidhjifmaaGreatEq
set_option linter.unusedVariables false
set_option linter.unusedSimpArgs false
namespace Go.Sk
open Go.RowKit Go.Proofs
variable {w0 w : World} {F G : Asrt} {R : Ending → World → Prop}
theorem c_ExecTests {g : Rg} {c : Int} (hc0 : -9223372036854775808 ≤ c) (hc1 : c < 9223372036854775808) (h : S w0 w F) (k : ∀ w', S w0 w' F → R (.returned (.bool true)) w') : Calls Tryz.prog 3 #[g.val, .int .i64 c] w R := by
  refine ok_shacklelaw13_ExecTests g.cells _ (al h fun b1 w1 h1 => c_up h1 fun w2 h2 => ⟨_, rfl, ?_⟩)
  refine ⟨fun y w' => y = true ∧ S w0 w' (pts b1 (.cells g.cells.toArray 25 (0, 0)) * F), dr h2 fun w3 h3 => ift rfl ?_, ?_⟩
  · iterate 46 refine ⟨_, ld h3 rfl, ?_⟩
    refine c_Test (g := g) h3 fun w4 h4 => ⟨_, rfl, ?_⟩
    repeat (first | refine ⟨_, ld h4 rfl, ?_⟩ | (with_reducible refine And.intro ?_ ?_; · rfl))
    refine c_rTest (g := g) hc0 hc1 h4 fun w5 h5 => ⟨_, rfl, ?_, h5⟩
    rw [tst_eq]
    exact beq_self_eq_true _
  rintro _ y w5 ⟨rfl, h5⟩
  exact k w5 h5.drop
theorem c_StepNil {a b : Option Addr} (h : a = none ∨ b = none) (k : R (.returned (.tuple #[.bool false, .iface 37 (.int .i64 1)])) w) : Calls Tryz.prog 16 #[.pointer a, .pointer b] w R := by
  refine ok_exec_Step _ _ ?_
  refine ⟨fun y w' => y = true ∧ w' = w, ?_, ?_⟩
  · cases a with
    | none => exact iff_ (by simp) ⟨rfl, rfl⟩
    | some a =>
      cases b with
      | none => exact ift rfl ⟨rfl, rfl⟩
      | some b => rcases h with h | h <;> cases h
  rintro _ y w1 ⟨rfl, rfl⟩
  exact b_t rfl k
theorem c_ExecNil {g : Rg} (h : S w0 w F) (k : ∀ w', S w0 w' F → R (.returned (.bool true)) w') : Calls Tryz.prog 4 #[g.val] w R := by
  refine ok_shacklelaw13_ExecNil g.cells (al h fun b1 w1 h1 => c_up h1 fun w2 h2 => ⟨_, rfl, ?_⟩)
  refine c_both (code := []) (data := []) (cc := 0) (dcp := 0) (Gives.nil _ none) (Gives.nil _ none) (by decide) (by decide) h2 ?_
  intro m r ps mr qs w3 t h3
  refine ⟨_, _, rfl, ?_⟩
  iterate 23 refine ⟨_, ld h3 rfl, ?_⟩
  refine al h3 fun b5 w4 h4 => sww h4 rfl rfl trivial fun w5 h5 => ?_
  refine c_StepNil (.inl rfl) ⟨_, _, rfl, c_StepNil (.inr rfl) ⟨_, _, rfl, ?_⟩⟩
  refine ⟨fun y w' => y = true ∧ w' = w5, ift rfl ⟨_, eq_code _ _ _ _ _, ift rfl ⟨_, eq_code _ _ _ _ _, ift rfl ?_⟩⟩, ?_⟩
  · iterate 46 refine ⟨_, ld h5 rfl, ?_⟩
    exact ⟨_, eq_regs _ _ g g w5, regEq_self g, rfl⟩
  rintro _ y w6 ⟨rfl, rfl⟩
  exact k w6 (h5.eq (show pts b5 (.cells g.cells.toArray 25 (0, 0)) * (memA m r 8 ps * (rmemA mr 8 qs * (pts b1 (.cells g.cells.toArray 25 (0, 0)) * F))) = (pts b5 (.cells g.cells.toArray 25 (0, 0)) * (memA m r 8 ps * (rmemA mr 8 qs * pts b1 (.cells g.cells.toArray 25 (0, 0))))) * F by ac_rfl)).drop
end Go.Sk
