/- The law GuestAgain of layer Guest returns true for every input, and leaves its arguments as they read. -/
import Derived.Test.YtnkdccidhjifmaaGreatRows
import Derived.Test.YtnkdccidhjifmaaGreatFr
import Derived.Test.YtnkdccidhjifmaaGreatGm
set_option linter.unusedVariables false
set_option linter.unusedSimpArgs false
namespace Go.Proofs.YtnkdccidhjifmaaGreat.guestAgain
open Go.ChangeShapes Go.WideShapes Go.ChangeAt Go.RowKit Go.Sk
theorem own : ownKnob Tryz.prog.godebug = none := by kernel_rfl
theorem readable : ∀ t ∈ Tryz.f7.params.toList, Tryz.prog.readableRec t = true ∧ t < Tryz.prog.types.size := by
  rw [Tryz.params7]
  intro t ht
  simp only [List.mem_cons, List.mem_nil_iff, or_false] at ht
  have h : ∀ u : TypeId, (Tryz.prog.readableRec u && decide (u < Tryz.prog.types.size)) = true → Tryz.prog.readableRec u = true ∧ u < Tryz.prog.types.size := fun u hu => by simpa using hu
  rcases ht with rfl | rfl | rfl | rfl | rfl
  · exact h _ (by kernel_rfl)
  · exact h _ (by kernel_rfl)
  · exact h _ (by kernel_rfl)
  · exact h _ (by kernel_rfl)
  · exact h _ (by kernel_rfl)
theorem walk (w : World) (s0 : Option Addr) (l0 : List Int) (c0 : Nat) (k0 : l0.length ≤ c0) (m0 : c0 ≤ maxLen) (e0 : ∀ j, j < l0.length → ∃ ad, s0 = some ad ∧ w.cell? (ad.add j) = some (.int .u8 (l0.getD j 0))) (f0 : ∀ n ∈ l0, (Lit.int .u8 n).wf = true) (g1 : Rg) (s2 : Option Addr) (l2 : List Int) (c2 : Nat) (k2 : l2.length ≤ c2) (m2 : c2 ≤ maxLen) (e2 : ∀ j, j < l2.length → ∃ ad, s2 = some ad ∧ w.cell? (ad.add j) = some (.int .u64 (l2.getD j 0))) (f2 : ∀ n ∈ l2, (Lit.int .u64 n).wf = true) (a3 : Int) (w3 : (Lit.int .i64 a3).wf = true) (a4 : Int) (w4 : (Lit.int .i64 a4).wf = true) : Calls Tryz.prog 7 #[.slice s0 l0.length c0, g1.val, .slice s2 l2.length c2, .int .i64 a3, .int .i64 a4] w fun e w' => e = .returned (.bool true) ∧ Below w.heap.size w w' :=
  c_GuestAgain (L := ⟨s2, l2, c2⟩) (gives_whole e0) (isB_wf f0) k0 (show l2.length ≤ 9223372036854775807 by unfold maxLen at m2; omega) (givesU_whole e2) (S.of_whole w) fun w' h => ⟨rfl, h.below'⟩
theorem laid : laidOutB Tryz.prog = true := by kernel_rfl
set_option maxRecDepth 100000 in
theorem lifted (os : Os) (started : os.Started) (H : Type) (enc : TypeId × Value → H) :
    ReturnsInHanded {} Tryz.checked os 7 .any (Rows.guestAgainSpec.pre6 enc Tryz.prog Tryz.f7 Rows.guestAgainRow.domain false) (Rows.guestAgainSpec.post enc Tryz.prog Tryz.f7 false true false false) := by
  refine returnsInHanded_of_change (C := Tryz.checked) own started (by kernel_rfl) Tryz.func7
    (ChangeSpec.witness6 (enc := enc) (C := Tryz.checked) false ⟨#[], #[.slice none 0 0, .agg #[.int .u64 0, .int .u64 0, .int .u64 0, .int .u64 0, .int .u64 0, .int .u64 0, .int .u64 0, .int .u64 0, .int .u64 0, .int .u64 0, .int .u64 0, .int .u64 0, .int .u64 0, .int .u64 0, .int .u64 0, .int .u64 0, .int .u64 0, .int .u64 0, .bool false, .bool false, .bool false, .bool false, .bool false], .slice none 0 0, .int .i64 0, .int .i64 0], []⟩ 8 (by kernel_rfl) (by kernel_rfl) (by kernel_rfl) (by kernel_rfl)) ?_
  intro W base args ds gs before hval0 hW hcnd _
  have hval : ∀ (j : Nat) t v, Tryz.f7.params[j]? = some t → args[j]? = some v → Value.okWide Tryz.prog W .any base t v := hval0
  have hW' := hW
  obtain ⟨p, q, hA0, hV, rfl, hfz, hnd⟩ := hW
  have hA : DataW.TrodAll enc Tryz.prog W 0 (fun _ => true) true Tryz.f7.params.toList args.toList ds p := hA0
  have hAll := hA
  rw [Tryz.params7] at hA hval
  obtain ⟨v0, vs0, d0, ds0, p0, q0, hargs, rfl, rfl, h0, r0⟩ := trodAll_cons hA
  obtain ⟨v1, vs1, d1, ds1, p1, q1, rfl, rfl, rfl, h1, r1⟩ := trodAll_cons r0
  obtain ⟨v2, vs2, d2, ds2, p2, q2, rfl, rfl, rfl, h2, r2⟩ := trodAll_cons r1
  obtain ⟨v3, vs3, d3, ds3, p3, q3, rfl, rfl, rfl, h3, r3⟩ := trodAll_cons r2
  obtain ⟨v4, vs4, d4, ds4, p4, q4, rfl, rfl, rfl, h4, r4⟩ := trodAll_cons r3
  obtain ⟨rfl, rfl, rfl⟩ := trodAll_nil r4
  obtain rfl : args = #[v0, v1, v2, v3, v4] := by cases args; simp_all
  obtain ⟨rfl, rfl⟩ := trodVars_none hV
  obtain ⟨s0, l0, c0, hs0, k0, m0, e0, f0⟩ := open_sl Tryz.underlying39 Tryz.underlying5 (by kernel_rfl) (hval 0 39 v0 rfl rfl) h0
  obtain ⟨g1, hg1⟩ := open_regs (hval 1 25 v1 rfl rfl)
  obtain ⟨s2, l2, c2, hs2, k2, m2, e2, f2⟩ := open_sl Tryz.underlying44 Tryz.underlying22 (by kernel_rfl) (hval 2 44 v2 rfl rfl) h2
  obtain ⟨a3, hv3, _, _, w3⟩ := open_int Tryz.underlying3 (hval 3 3 v3 rfl rfl) h3
  obtain ⟨a4, hv4, _, _, w4⟩ := open_int Tryz.underlying3 (hval 4 3 v4 rfl rfl) h4
  clear hA0 hval0
  simp only [List.append_nil] at hW' hAll
  have hlt := hW'.lt
  have hC : Calls Tryz.prog 7 #[v0, v1, v2, v3, v4] W fun e W' => e = .returned (.bool true) ∧ Below W.heap.size W W' := by
    rw [hs0, hg1, hs2, hv3, hv4]
    exact walk W s0 l0 c0 k0 m0 e0 f0 g1 s2 l2 c2 k2 m2 e2 f2 a3 w3 a4 w4
  refine hC.mono fun e W' ⟨he, hb⟩ => ?_
  subst he
  refine ⟨_, rfl, post_of_belowX (pv := []) hW' (fun _ _ _ => (trodAll_cons_mk (shut_bool Tryz.underlying4 _) trodAll_mk0)) (fun sp hsp => stay_all laid hb readable hAll hlt hsp) (fun _ _ => rfl) (by simp) hb (ok_one (by kernel_rfl) rfl (okWide_bool_mk Tryz.underlying4 _))⟩

theorem over : Rows.guestAgainRow.holds Tryz.pinned (OpenSpec.ofChange Rows.guestAgainSpec) :=
  OpenClaim.holds_of_wide 7 Tryz.f7 rfl rfl rfl rfl rfl rfl rfl ⟨rfl, rfl, rfl, rfl, rfl⟩ rfl rfl rfl rfl rfl (by kernel_rfl) Tryz.func7 (by kernel_rfl)
    (of_decide_eq_true (by kernel_rfl)) (by unfold Func.isWrapper; first | (rw [if_pos (by decide +kernel)]; kernel_rfl) | (rw [if_neg (by decide +kernel)]; exact ⟨rfl, rfl⟩))
    (fun os started H enc _ => lifted os started H enc)
end Go.Proofs.YtnkdccidhjifmaaGreat.guestAgain
namespace Go.Proofs.YtnkdccidhjifmaaGreat
theorem guestAgain_holds : Rows.GuestAgainSaid := guestAgain.over
#print axioms guestAgain_holds
end Go.Proofs.YtnkdccidhjifmaaGreat
