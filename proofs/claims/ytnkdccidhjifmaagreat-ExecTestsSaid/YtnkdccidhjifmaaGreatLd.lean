/- The statements of layer 13 (seat Z): up, conditions. -/
import Derived.Test.YtnkdccidhjifmaaGreatLb
set_option linter.unusedVariables false
set_option linter.unusedSimpArgs false
namespace Go.Sk
open Go.RowKit Go.Proofs
variable {w0 w : World} {F G : Asrt} {R : Ending → World → Prop}
def upCode : List Int := [72, 137, 229, 72, 255, 192, 244]
def upM : Mv := mv4 lay4 upCode []
def upG : Rg := ⟨fun i => if i = 4 then 77 else if i = 0 then 18446744073709551615 else 0, 65536, 0, false, false, false, false, false⟩
def up1 : StR := rStep upM upG
def up2 : StR := rStep upM up1.2.2.1
def up3 : StR := rStep upM up2.2.2.1
def er0 (x : StR) : Bool := x.1.isNone && x.2.2.2.isNone
theorem up1_f : (er0 up1 && !up1.2.1) = true := by kernel_rfl
theorem up2_f : (er0 up2 && !up2.2.1) = true := by kernel_rfl
theorem up3_f : (er0 up3 && up3.2.1) = true := by kernel_rfl
theorem up3_r : (up3.2.2.1.r 5 == 77 && up3.2.2.1.r 0 == 0 && up3.2.2.1.zf && up3.2.2.1.pf && !up3.2.2.1.cf && up3.2.2.1.ip == 65543) = true := by kernel_rfl
theorem up_byte {code data : List Int} (hc : isB code) (hd : isB data) {L : Lay} (y : Int) : 0 ≤ (mv4 L code data).byte y ∧ (mv4 L code data).byte y < 256 :=
  over_range (over_range (fun _ => by simp) (hc.take 4096)) (hd.take 8192) y
theorem PutO.none_ {ps ps' : List Pg} {o : Option (Int × List Int)} (h : PutO ps ps' o) (e : o = none) : ps' = ps := by subst e; exact h
theorem er0_split {x : StR} (h : er0 x = true) : x.1 = none ∧ x.2.2.2 = none := by
  unfold er0 at h
  simp only [Bool.and_eq_true, Option.isNone_iff_eq_none] at h
  exact h
set_option maxHeartbeats 1000000 in
theorem c_up (h : S w0 w F) (k : ∀ w', S w0 w' F → R (.returned (.bool true)) w') : Calls Tryz.prog 12 #[] w R := by
  refine ok_shacklelaw13_up (al h fun b1 w1 h1 => ?_)
  have f1 := up1_f
  have f2 := up2_f
  have f3 := up3_f
  have f4 := up3_r
  simp only [Bool.and_eq_true, Bool.not_eq_true', beq_iff_eq] at f1 f2 f3 f4
  obtain ⟨e1, e1'⟩ := er0_split f1.1
  obtain ⟨e2, e2'⟩ := er0_split f2.1
  obtain ⟨e3, e3'⟩ := er0_split f3.1
  have hB := fun y => up_byte (code := upCode) (data := []) (by unfold isB upCode; decide) (by unfold isB; decide) (L := lay4) y
  refine c_both (code := upCode) (data := []) (cc := 7) (dcp := 0) (Gives.at (l := upCode) (so := 0) (obj := #[.int .u8 72, .int .u8 137, .int .u8 229, .int .u8 72, .int .u8 255, .int .u8 192, .int .u8 244]) ?_) (Gives.nil _ none) (by decide) (by decide) h1 ?_
  · intro j hj
    have h7 : upCode.length = 7 := rfl
    have : j = 0 ∨ j = 1 ∨ j = 2 ∨ j = 3 ∨ j = 4 ∨ j = 5 ∨ j = 6 := by omega
    rcases this with rfl | rfl | rfl | rfl | rfl | rfl | rfl <;> rfl
  intro m r ps mr qs w2 t h2
  refine ⟨_, _, rfl, b_f rfl (al h2 fun b7 w3 h3 => sww h3 rfl rfl trivial fun w4 h4 => st h4 rfl fun w5 h5 => st h5 rfl fun w6 h6 => ?_)⟩
  have h7 : S w0 w6 (memA m r 8 ps * (pts b7 (.cells upG.cells.toArray 25 (0, 0)) * (rmemA mr 8 qs * (pts b1 (.cells #[.int .u8 72, .int .u8 137, .int .u8 229, .int .u8 72, .int .u8 255, .int .u8 192, .int .u8 244] 5 (0, 0)) * F)))) := h6.eq (by
    show pts b7 (.cells upG.cells.toArray 25 (0, 0)) * _ = _
    ac_rfl)
  have ev : mv ps = upM := t.mv
  refine c_Step t.wf (by rw [ev]; exact hB) h7 fun v ps1 w8 hp1 h8 => ⟨_, _, rfl, ?_⟩
  rw [ev] at hp1 h8 ⊢
  obtain rfl := PutO.none_ hp1 e1'
  rw [show (rStep upM upG).1 = none from e1] at h8
  obtain ⟨rfl, h9⟩ := err_none h8
  refine c_Step t.wf (by rw [ev]; exact hB) h9 fun v ps2 w10 hp2 h10 => ⟨_, _, rfl, ?_⟩
  rw [ev] at hp2 h10 ⊢
  obtain rfl := PutO.none_ hp2 e2'
  rw [show (rStep upM (rStep upM upG).2.2.1).1 = none from e2] at h10
  obtain ⟨rfl, h11⟩ := err_none h10
  refine c_Step t.wf (by rw [ev]; exact hB) h11 fun v ps3 w12 hp3 h12 => ⟨_, _, rfl, ?_⟩
  rw [ev] at hp3 h12 ⊢
  obtain rfl := PutO.none_ hp3 e3'
  rw [show (rStep upM (rStep upM (rStep upM upG).2.2.1).2.2.1).1 = none from e3] at h12
  obtain ⟨rfl, h13⟩ := err_none h12
  refine ⟨fun y w' => y = true ∧ w' = w12, ?_, ?_⟩
  · refine ift (by rw [show (rStep upM upG).2.1 = false from f1.2]; rfl) (ift (by rw [show (rStep upM (rStep upM upG).2.2.1).2.1 = false from f2.2]; rfl) (ift f3.2 (nq_nil (ift rfl (nq_nil (ift rfl (nq_nil (ift rfl ?_)))))))) 
    refine ⟨_, ld h13 rfl, ift (by rw [show (rStep upM (rStep upM (rStep upM upG).2.2.1).2.2.1).2.2.1.r 5 = 77 from f4.1.1.1.1.1]; rfl) ⟨_, ld h13 rfl, ift (by rw [show (rStep upM (rStep upM (rStep upM upG).2.2.1).2.2.1).2.2.1.r 0 = 0 from f4.1.1.1.1.2]; rfl) ?_⟩⟩
    refine ⟨_, ld h13 rfl, ift f4.1.1.1.2 ⟨_, ld h13 rfl, ift f4.1.1.2 ⟨_, ld h13 rfl, ift (by rw [show (rStep upM (rStep upM (rStep upM upG).2.2.1).2.2.1).2.2.1.cf = false from f4.1.2]; rfl) ⟨_, ld h13 rfl, ?_, rfl⟩⟩⟩⟩
    rw [show (rStep upM (rStep upM (rStep upM upG).2.2.1).2.2.1).2.2.1.ip = 65543 from f4.2]
    rfl
  rintro _ y w14 ⟨rfl, rfl⟩
  exact k w14 ((h13.eq (show _ = (memA m r 8 ps3 * (pts b7 (.cells (rStep upM (rStep upM (rStep upM upG).2.2.1).2.2.1).2.2.1.cells.toArray 25 (0, 0)) * (rmemA mr 8 qs * pts b1 (.cells #[.int .u8 72, .int .u8 137, .int .u8 229, .int .u8 72, .int .u8 255, .int .u8 192, .int .u8 244] 5 (0, 0))))) * F by ac_rfl)).drop)
/-! ### Conditions -/
def rl (g : Rg) : List Bool := [g.of, g.cf, g.zf, g.cf || g.zf, g.sf, g.pf, !(g.sf == g.of), g.zf || !(g.sf == g.of)]
def rTst (g : Rg) (c : Int) : Bool := if c % 16 % 2 = 1 then !((rl g).getD (c % 16 / 2).toNat false) else (rl g).getD (c % 16 / 2).toNat false
set_option maxHeartbeats 1000000 in
theorem c_rTest {g : Rg} {c : Int} (hc0 : -9223372036854775808 ≤ c) (hc1 : c < 9223372036854775808) (h : S w0 w F) (k : ∀ w', S w0 w' F → R (.returned (.bool (rTst g c))) w') : Calls Tryz.prog 14 #[g.val, .int .i64 c] w R := by
  refine ok_shackleref13_Test g.cells _ (al h fun b1 w1 h1 => ?_)
  refine ⟨fun y w' => y = c % 16 ∧ w' = w1, ?_, ?_⟩
  · have e : c.tmod 16 = if 0 ≤ c then c % 16 else -((-c) % 16) := by
      split
      · exact Int.tmod_eq_emod_of_nonneg (by omega)
      · rw [← Int.tmod_eq_emod_of_nonneg (show 0 ≤ -c by omega), Int.neg_tmod]; omega
    refine dc (fun hlt => ⟨?_, rfl⟩) (fun hlt => ⟨?_, rfl⟩)
    · rw [wi64 (by split at e <;> omega) (by split at e <;> omega)]
      split at e <;> omega
    · split at e <;> omega
  rintro _ y w2 ⟨rfl, rfl⟩
  refine ⟨fun z w' => ∃ b, z = (some ⟨b, 0, none⟩, 8, 8) ∧ S w0 w' (pts b (.cells ((rl g).map Value.bool).toArray 4 (0, 0)) * (pts b1 (.cells g.cells.toArray 25 (0, 0)) * F)), ?_, ?_⟩
  · obtain ⟨rr, ip, fs, cf, zf, sf, of, pf⟩ := g
    cases cf <;> cases zf <;> (
      repeat (first | refine ⟨_, ld h1 rfl, ?_⟩ | refine ift rfl ?_ | refine iff_ (by simp) ?_)
      exact al h1 fun b w3 h3 => ⟨b, rfl, h3⟩)
  rintro _ z w3 ⟨b, rfl, h3⟩
  have hd : IntKind.i64.wrap ((c % 16).tdiv 2) = c % 16 / 2 := by rw [tdiv_pos (by omega), wi64 (by omega) (by omega)]
  have hm : (c % 16).tmod 2 = c % 16 % 2 := tmod_pos (by omega)
  rw [hd, hm]
  have hg : ((rl g).map Value.bool).toArray[0 + (c % 16 / 2).toNat * 1]? = some (.bool ((rl g).getD (c % 16 / 2).toNat false)) := by
    have hl : (c % 16 / 2).toNat < (rl g).length := by show (c % 16 / 2).toNat < 8; omega
    simp [hl, List.getD_eq_getElem?_getD]
  unfold rTst at k
  by_cases c1 : c % 16 % 2 = 1
  · rw [if_pos c1] at k
    exact b_t (by simpa using c1) (ix_mk (by omega) (by show c % 16 / 2 < ((8 : Nat) : Int); omega) ⟨_, ld h3 hg, k w3 h3.drop.drop⟩)
  · rw [if_neg c1] at k
    exact b_f (by simpa using c1) (ix_mk (by omega) (by show c % 16 / 2 < ((8 : Nat) : Int); omega) ⟨_, ld h3 hg, k w3 h3.drop.drop⟩)
theorem bAnd_low (c : Int) (m : Nat) (hm : m < 16) : bAnd .i64 c m = ((((c % 16).toNat &&& m : Nat) : Nat) : Int) := by
  unfold bAnd
  have h1 : (BitVec.ofInt IntKind.i64.bits c &&& BitVec.ofInt IntKind.i64.bits (m : Int)).toNat = (c % 16).toNat &&& m := by
    rw [BitVec.toNat_and]
    have e1 : (BitVec.ofInt IntKind.i64.bits (m : Int)).toNat = m := by
      rw [BitVec.toNat_ofInt]
      show ((m : Int) % (2 ^ 64 : Nat)).toNat = m
      omega
    have e2 : (BitVec.ofInt IntKind.i64.bits c).toNat = (c % (2 ^ 64 : Nat)).toNat := BitVec.toNat_ofInt ..
    rw [e1, e2]
    have e3 : m = 15 &&& m := by
      have := Nat.and_two_pow_sub_one_eq_mod m 4
      rw [Nat.and_comm]
      show m = m &&& (2 ^ 4 - 1)
      rw [this]
      omega
    have e4 : (c % (2 ^ 64 : Nat)).toNat % 16 = (c % 16).toNat := by omega
    calc (c % (2 ^ 64 : Nat)).toNat &&& m = (c % (2 ^ 64 : Nat)).toNat &&& (15 &&& m) := by rw [← e3]
      _ = ((c % (2 ^ 64 : Nat)).toNat &&& (2 ^ 4 - 1)) &&& m := by rw [Nat.and_assoc]
      _ = _ := by rw [Nat.and_two_pow_sub_one_eq_mod, e4]
  rw [h1]
  have : ((c % 16).toNat &&& m) ≤ m := Nat.and_le_right
  exact wi64 (by omega) (by omega)
theorem tst_eq (g : Rg) (c : Int) : tst g c = rTst g c := by
  have h1 := bAnd_low c 14 (by omega)
  have h2 := bAnd_low c 1 (by omega)
  unfold tst
  rw [show (14 : Int) = ((14 : Nat) : Int) from rfl, show (1 : Int) = ((1 : Nat) : Int) from rfl, h1, h2]
  unfold rTst
  obtain ⟨e, he⟩ : ∃ e : Nat, e = (c % 16).toNat := ⟨_, rfl⟩
  have he2 : c % 16 = e := by omega
  have he3 : e < 16 := by omega
  rw [← he, he2]
  obtain ⟨rr, ip, fs, cf, zf, sf, of, pf⟩ := g
  rcases e with _ | _ | _ | _ | _ | _ | _ | _ | _ | _ | _ | _ | _ | _ | _ | _ | e
  all_goals first | omega | (cases cf <;> cases zf <;> cases sf <;> cases of <;> cases pf <;> rfl)
end Go.Sk
