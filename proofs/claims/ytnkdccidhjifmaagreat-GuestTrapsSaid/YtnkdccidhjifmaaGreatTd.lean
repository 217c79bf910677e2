/- The law GuestTraps of layer Guest returns true for every input, and leaves its arguments as they read. -/
import Derived.Test.YtnkdccidhjifmaaGreatRows
import Derived.Test.YtnkdccidhjifmaaGreatFr
import Derived.Test.YtnkdccidhjifmaaGreatGh
set_option linter.unusedVariables false
set_option linter.unusedSimpArgs false
namespace Go.Proofs.YtnkdccidhjifmaaGreat.guestTraps
open Go.ChangeShapes Go.WideShapes Go.ChangeAt Go.RowKit Go.Sk
theorem own : ownKnob Tryz.prog.godebug = none := by kernel_rfl
theorem readable : ∀ t ∈ Tryz.f5.params.toList, Tryz.prog.readableRec t = true ∧ t < Tryz.prog.types.size := by
  rw [Tryz.params5]
  intro t ht
  simp only [List.mem_cons, List.mem_nil_iff, or_false] at ht
  have h : ∀ u : TypeId, (Tryz.prog.readableRec u && decide (u < Tryz.prog.types.size)) = true → Tryz.prog.readableRec u = true ∧ u < Tryz.prog.types.size := fun u hu => by simpa using hu
  subst ht; exact h _ (by kernel_rfl)
theorem walk (a0 : Int) (w0 : (Lit.int .u8 a0).wf = true) (w : World) : Calls Tryz.prog 5 #[.int .u8 a0] w fun e w' => e = .returned (.bool true) ∧ Below w.heap.size w w' :=
  have hw : 0 ≤ a0 ∧ a0 < 256 := by
    have e0 : IntKind.u8.min = 0 := by kernel_rfl
    have e1 : IntKind.u8.max = 255 := by kernel_rfl
    simp [Lit.wf, e0, e1] at w0
    omega
  c_GuestTraps hw.1 hw.2 (S.of_whole w) fun w' h => ⟨rfl, h.below'⟩
theorem laid : laidOutB Tryz.prog = true := by kernel_rfl
set_option maxRecDepth 100000 in
theorem lifted (os : Os) (started : os.Started) (H : Type) (enc : TypeId × Value → H) :
    ReturnsInHanded {} Tryz.checked os 5 .any (Rows.guestTrapsSpec.pre6 enc Tryz.prog Tryz.f5 Rows.guestTrapsRow.domain false) (Rows.guestTrapsSpec.post enc Tryz.prog Tryz.f5 false true false false) := by
  refine returnsInHanded_of_change (C := Tryz.checked) own started (by kernel_rfl) Tryz.func5
    (ChangeSpec.witness6 (enc := enc) (C := Tryz.checked) false ⟨#[], #[.int .u8 0], []⟩ 8 (by kernel_rfl) (by kernel_rfl) (by kernel_rfl) (by kernel_rfl)) ?_
  intro W base args ds gs before hval0 hW hcnd _
  have hval : ∀ (j : Nat) t v, Tryz.f5.params[j]? = some t → args[j]? = some v → Value.okWide Tryz.prog W .any base t v := hval0
  have hW' := hW
  obtain ⟨p, q, hA0, hV, rfl, hfz, hnd⟩ := hW
  have hA : DataW.TrodAll enc Tryz.prog W 0 (fun _ => true) true Tryz.f5.params.toList args.toList ds p := hA0
  have hAll := hA
  rw [Tryz.params5] at hA hval
  obtain ⟨v0, vs0, d0, ds0, p0, q0, hargs, rfl, rfl, h0, r0⟩ := trodAll_cons hA
  obtain ⟨rfl, rfl, rfl⟩ := trodAll_nil r0
  obtain rfl : args = #[v0] := by cases args; simp_all
  obtain ⟨rfl, rfl⟩ := trodVars_none hV
  obtain ⟨a0, hv0, _, _, w0⟩ := open_int Tryz.underlying5 (hval 0 5 v0 rfl rfl) h0
  clear hA0 hval0
  simp only [List.append_nil] at hW' hAll
  have hlt := hW'.lt
  have hC : Calls Tryz.prog 5 #[v0] W fun e W' => e = .returned (.bool true) ∧ Below W.heap.size W W' := by
    rw [hv0]
    exact walk a0 w0 W
  refine hC.mono fun e W' ⟨he, hb⟩ => ?_
  subst he
  refine ⟨_, rfl, post_of_belowX (pv := []) hW' (fun _ _ _ => (trodAll_cons_mk (shut_bool Tryz.underlying4 _) trodAll_mk0)) (fun sp hsp => stay_all laid hb readable hAll hlt hsp) (fun _ _ => rfl) (by simp) hb (ok_one (by kernel_rfl) rfl (okWide_bool_mk Tryz.underlying4 _))⟩

theorem over : Rows.guestTrapsRow.holds Tryz.pinned (OpenSpec.ofChange Rows.guestTrapsSpec) :=
  OpenClaim.holds_of_wide 5 Tryz.f5 rfl rfl rfl rfl rfl rfl rfl ⟨rfl, rfl, rfl, rfl, rfl⟩ rfl rfl rfl rfl rfl (by kernel_rfl) Tryz.func5 (by kernel_rfl)
    (of_decide_eq_true (by kernel_rfl)) (by unfold Func.isWrapper; first | (rw [if_pos (by decide +kernel)]; kernel_rfl) | (rw [if_neg (by decide +kernel)]; exact ⟨rfl, rfl⟩))
    (fun os started H enc _ => lifted os started H enc)
end Go.Proofs.YtnkdccidhjifmaaGreat.guestTraps
namespace Go.Proofs.YtnkdccidhjifmaaGreat
theorem guestTraps_holds : Rows.GuestTrapsSaid := guestTraps.over
#print axioms guestTraps_holds
end Go.Proofs.YtnkdccidhjifmaaGreat
