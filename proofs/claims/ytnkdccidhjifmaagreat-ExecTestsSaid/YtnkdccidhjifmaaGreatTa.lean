/- The law ExecTests of layer Exec returns true for every input, and leaves its arguments as they read. -/
import Derived.Test.YtnkdccidhjifmaaGreatRows
import Derived.Test.YtnkdccidhjifmaaGreatFr
import Derived.Test.YtnkdccidhjifmaaGreatLe
set_option linter.unusedVariables false
set_option linter.unusedSimpArgs false
namespace Go.Proofs.YtnkdccidhjifmaaGreat.execTests
open Go.ChangeShapes Go.WideShapes Go.ChangeAt Go.RowKit Go.Sk
theorem own : ownKnob Tryz.prog.godebug = none := by kernel_rfl
theorem readable : ∀ t ∈ Tryz.f3.params.toList, Tryz.prog.readableRec t = true ∧ t < Tryz.prog.types.size := by
  rw [Tryz.params3]
  intro t ht
  simp only [List.mem_cons, List.mem_nil_iff, or_false] at ht
  have h : ∀ u : TypeId, (Tryz.prog.readableRec u && decide (u < Tryz.prog.types.size)) = true → Tryz.prog.readableRec u = true ∧ u < Tryz.prog.types.size := fun u hu => by simpa using hu
  rcases ht with rfl | rfl
  · exact h _ (by kernel_rfl)
  · exact h _ (by kernel_rfl)
theorem walk (g0 : Rg) (a1 : Int) (w1 : (Lit.int .i64 a1).wf = true) (w : World) : Calls Tryz.prog 3 #[g0.val, .int .i64 a1] w fun e w' => e = .returned (.bool true) ∧ Below w.heap.size w w' :=
  have hw : -9223372036854775808 ≤ a1 ∧ a1 < 9223372036854775808 := by
    have e0 : IntKind.i64.min = -9223372036854775808 := by kernel_rfl
    have e1 : IntKind.i64.max = 9223372036854775807 := by kernel_rfl
    simp [Lit.wf, e0, e1] at w1
    omega
  c_ExecTests hw.1 hw.2 (S.of_whole w) fun w' h => ⟨rfl, h.below'⟩
theorem laid : laidOutB Tryz.prog = true := by kernel_rfl
set_option maxRecDepth 100000 in
theorem lifted (os : Os) (started : os.Started) (H : Type) (enc : TypeId × Value → H) :
    ReturnsInHanded {} Tryz.checked os 3 .any (Rows.execTestsSpec.pre6 enc Tryz.prog Tryz.f3 Rows.execTestsRow.domain false) (Rows.execTestsSpec.post enc Tryz.prog Tryz.f3 false true false false) := by
  refine returnsInHanded_of_change (C := Tryz.checked) own started (by kernel_rfl) Tryz.func3
    (ChangeSpec.witness6 (enc := enc) (C := Tryz.checked) false ⟨#[], #[.agg #[.int .u64 0, .int .u64 0, .int .u64 0, .int .u64 0, .int .u64 0, .int .u64 0, .int .u64 0, .int .u64 0, .int .u64 0, .int .u64 0, .int .u64 0, .int .u64 0, .int .u64 0, .int .u64 0, .int .u64 0, .int .u64 0, .int .u64 0, .int .u64 0, .bool false, .bool false, .bool false, .bool false, .bool false], .int .i64 0], []⟩ 8 (by kernel_rfl) (by kernel_rfl) (by kernel_rfl) (by kernel_rfl)) ?_
  intro W base args ds gs before hval0 hW hcnd _
  have hval : ∀ (j : Nat) t v, Tryz.f3.params[j]? = some t → args[j]? = some v → Value.okWide Tryz.prog W .any base t v := hval0
  have hW' := hW
  obtain ⟨p, q, hA0, hV, rfl, hfz, hnd⟩ := hW
  have hA : DataW.TrodAll enc Tryz.prog W 0 (fun _ => true) true Tryz.f3.params.toList args.toList ds p := hA0
  have hAll := hA
  rw [Tryz.params3] at hA hval
  obtain ⟨v0, vs0, d0, ds0, p0, q0, hargs, rfl, rfl, h0, r0⟩ := trodAll_cons hA
  obtain ⟨v1, vs1, d1, ds1, p1, q1, rfl, rfl, rfl, h1, r1⟩ := trodAll_cons r0
  obtain ⟨rfl, rfl, rfl⟩ := trodAll_nil r1
  obtain rfl : args = #[v0, v1] := by cases args; simp_all
  obtain ⟨rfl, rfl⟩ := trodVars_none hV
  obtain ⟨g0, hg0⟩ := open_regs (hval 0 25 v0 rfl rfl)
  obtain ⟨a1, hv1, _, _, w1⟩ := open_int Tryz.underlying3 (hval 1 3 v1 rfl rfl) h1
  clear hA0 hval0
  simp only [List.append_nil] at hW' hAll
  have hlt := hW'.lt
  have hC : Calls Tryz.prog 3 #[v0, v1] W fun e W' => e = .returned (.bool true) ∧ Below W.heap.size W W' := by
    rw [hg0, hv1]
    exact walk g0 a1 w1 W
  refine hC.mono fun e W' ⟨he, hb⟩ => ?_
  subst he
  refine ⟨_, rfl, post_of_belowX (pv := []) hW' (fun _ _ _ => (trodAll_cons_mk (shut_bool Tryz.underlying4 _) trodAll_mk0)) (fun sp hsp => stay_all laid hb readable hAll hlt hsp) (fun _ _ => rfl) (by simp) hb (ok_one (by kernel_rfl) rfl (okWide_bool_mk Tryz.underlying4 _))⟩

theorem over : Rows.execTestsRow.holds Tryz.pinned (OpenSpec.ofChange Rows.execTestsSpec) :=
  OpenClaim.holds_of_wide 3 Tryz.f3 rfl rfl rfl rfl rfl rfl rfl ⟨rfl, rfl, rfl, rfl, rfl⟩ rfl rfl rfl rfl rfl (by kernel_rfl) Tryz.func3 (by kernel_rfl)
    (of_decide_eq_true (by kernel_rfl)) (by unfold Func.isWrapper; first | (rw [if_pos (by decide +kernel)]; kernel_rfl) | (rw [if_neg (by decide +kernel)]; exact ⟨rfl, rfl⟩))
    (fun os started H enc _ => lifted os started H enc)
end Go.Proofs.YtnkdccidhjifmaaGreat.execTests
namespace Go.Proofs.YtnkdccidhjifmaaGreat
theorem execTests_holds : Rows.ExecTestsSaid := execTests.over
#print axioms execTests_holds
end Go.Proofs.YtnkdccidhjifmaaGreat
