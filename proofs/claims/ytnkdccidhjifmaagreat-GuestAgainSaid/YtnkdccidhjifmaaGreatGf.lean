/- The statements of layer 20 (seat Z): calls with an empty linker; up. -/
import Derived.Test.YtnkdccidhjifmaaGreatGe
import Derived.Test.YtnkdccidhjifmaaGreatDd
set_option linter.unusedVariables false
set_option linter.unusedSimpArgs false
namespace Go.Sk
open Go.RowKit Go.Proofs
variable {w0 w : World} {F G : Asrt} {R : Ending → World → Prop}
variable {T : TypeId} {b m r tb rg : Nat} {q : Int} {ps : List Pg} {p : Pr}
def MB (M : Mv) : Prop := ∀ y, 0 ≤ M.byte y ∧ M.byte y < 256
theorem gStepS_B {s : Gs} {n : Nat} (h : MB s.M) : MB (gStepS s n).M := mvPut_B h (rStep_bt s.M s.g)
theorem gOne_B {L : List Int} {s : Gs} {n : Nat} (h : MB s.M) : MB (gOne L n s).2.2.M := by
  unfold gOne
  split
  · exact h
  split
  · show MB (gAsk L _ _).2.2.M
    rw [(gAsk_ok L _ _).M]
    exact gStepS_B h
  · exact gStepS_B h
theorem gOn_B {L : List Int} : ∀ (n : Nat) {s : Gs}, MB s.M → MB (gOn L n s).2.M
  | 0, _, h => h
  | n + 1, s, h => by
    rw [gOn]
    split
    · exact gOne_B h
    · exact gOn_B n (gOne_B h)
theorem gCall_B {L : List Int} {M : Mv} {g : Rg} {fuel : Nat} {x : Int} {args asked : List Int} (h : MB M) : MB (gCall L M g fuel x args asked).2.M := by
  unfold gCall
  split
  · exact gOn_B fuel (s := ⟨mvPut M (some ((gB g args).r 4, gBack)), (gB g args).ipTo x, fuel, [], asked⟩) (show MB (mvPut M (some ((gB g args).r 4, gBack))) from over_range h gBack_B)
  · exact h
theorem mv20_B {code data : List Int} (hc : isB code) (hd : isB data) : MB (mv20 code data) := by
  refine over_range (over_range ?_ (hc.take 4096)) (hd.take 8192)
  intro y
  have : ∀ i y, 0 ≤ pokeB i y ∧ pokeB i y < 256 := by
    intro i
    induction i with
    | zero => intro y; exact ⟨Int.le_refl _, show (0 : Int) < 256 by decide⟩
    | succ i ih => exact fun y => over_range ih (fun x hx => by simp at hx; subst hx; decide) y
  exact this 3 y
theorem slR_rd {e : TypeId} {sz : Nat} {l : List Value} {a : Option Addr} {n c : Nat} {G : Asrt} (h : S w0 w (slR e sz l a n c * G)) {i : Nat} (hi : i < l.length) : ∃ ad, a = some ad ∧ w.cell? (ad.add i) = l[i]? := by
  rcases slR_cases h.sat with ⟨_, _, _, rfl, _⟩ | ⟨g, rest, rfl, _, _, _, _, h2⟩
  · simp at hi
  · refine ⟨_, rfl, ?_⟩
    rw [Addr.add_lit, cellS h2]
    simp [List.getElem?_append_left hi]
theorem c_Call0 {M : Mv} {g : Rg} {fuel : Nat} {x : Int} {args : List Int} {aa : Option Addr} {ac : Nat} (hw : wfs ps) (hM : mv ps = M) (hB : MB M) (hga : GivesU F aa args) (hal : args.length ≤ 3) (he : fuel ≤ 100000)
    (h : S w0 w (pts tb (.cells #[.slice none 0 0, .slice none 0 0] 46 (0, 0)) * (memA m r q ps * F)))
    (k : ∀ v a c ps' w', wfs ps' → mv ps' = (gCall [] M g fuel x args []).2.M → Alk ps' ps →
      S w0 w' (errB (gCall [] M g fuel x args []).1 v * (memA m r q ps' * (slR 49 3 (evs (gCall [] M g fuel x args []).2.ev) a (gCall [] M g fuel x args []).2.ev.length c * F))) →
      R (.returned (.tuple #[.int .u64 (gVal (gCall [] M g fuel x args [])), .slice a (gCall [] M g fuel x args []).2.ev.length c, .int .i64 ((gCall [] M g fuel x args []).2.fuel : Int), v])) w') :
    Calls Tryz.prog 19 #[.pointer (some ⟨m, 0, none⟩), .iface 43 (.pointer (some ⟨tb, 0, none⟩)), g.val, .int .i64 (fuel : Int), .int .u64 x, .slice aa args.length ac] w R := by
  have h1 : S w0 w (tabA tb ⟨none, [], 0⟩ [] * (memA m r q ps * F)) := tab_shut (z := (none, 0, 0)) (h.eq (by
    show _ = _ * (slR 22 1 [] none 0 0 * _)
    rw [slR_nil, emp_mul]
    rfl))
  refine c_Call (L := ⟨none, [], 0⟩) (asked := []) hw hM hB (by decide) (GivesU.nil _ none) hga hal (by simp; omega) (by omega) (h1.eq (mulL _ _ _)) fun v a c ps' w' hw' hM' hes h2 => k v a c ps' w' hw' hM' hes ?_
  exact (h2.eq (show _ = tabA tb ⟨none, [], 0⟩ (gCall [] M g fuel x args []).2.asked * (errB (gCall [] M g fuel x args []).1 v * (memA m r q ps' * (slR 49 3 (evs (gCall [] M g fuel x args []).2.ev) a (gCall [] M g fuel x args []).2.ev.length c * F))) by ac_rfl)).drop
def upc : List Int := [195, 244, 195, 235, 254]
def ud1 : Er2 × Gs := gCall [] (mv20 upc []) stG 5 65536 [] []
def ud2 : Er2 × Gs := gCall [] ud1.2.M stG 5 65537 [] []
def ud3 : Er2 × Gs := gCall [] ud2.2.M stG 5 65539 [] []
theorem ud1_f : (ud1.1.isNone && ud1.2.ev.length == 0 && ud1.2.fuel == 3) = true := by kernel_rfl
theorem ud2_f : (ud2.1.isNone && ud2.2.ev.map (·.1) == [65537] && ud2.2.fuel == 2) = true := by kernel_rfl
theorem ud3_f : (ud3.1 == some (none, 14) && ud3.2.fuel == 0) = true := by kernel_rfl
set_option maxHeartbeats 1000000 in
theorem c_up20 (h : S w0 w F) (k : ∀ w', S w0 w' F → R (.returned (.bool true)) w') : Calls Tryz.prog 17 #[] w R := by
  refine ok_shacklelaw20_up (al h fun b1 w1 h1 => ?_)
  have f1 := ud1_f
  have f2 := ud2_f
  have f3 := ud3_f
  simp only [Bool.and_eq_true, beq_iff_eq] at f1 f2 f3
  refine c_both20 (code := upc) (data := []) (cc := 5) (dcp := 0) (Gives.at (l := upc) (so := 0) (obj := #[.int .u8 195, .int .u8 244, .int .u8 195, .int .u8 235, .int .u8 254]) ?_) (Gives.nil _ none) (by decide) (by decide) h1 ?_
  · intro j hj
    have h7 : upc.length = 5 := rfl
    have : j = 0 ∨ j = 1 ∨ j = 2 ∨ j = 3 ∨ j = 4 := by omega
    rcases this with rfl | rfl | rfl | rfl | rfl <;> rfl
  intro m r ps mr qs w2 t h2
  have hB := mv20_B (code := upc) (data := []) (by unfold isB upc; decide) (by unfold isB; decide)
  refine ⟨_, _, rfl, b_f rfl (al h2 fun b7 w3 h3 => c_stack h3 fun w4 h4 => ?_)⟩
  refine ⟨_, _, _, _, _, _, _, _, _, _, _, _, _, _, _, _, _, _, _, _, _, _, _, rfl, ?_⟩
  refine c_Call0 (args := []) (fuel := 5) t.o.wf t.o.mv hB (GivesU.nil _ none) (by decide) (by decide) h4 fun v1 a1 c1 ps1 w5 hw1 hM1 he1 h5 => ?_
  rw [show gCall [] (mv20 upc []) stG 5 65536 [] [] = ud1 from rfl] at hM1 h5 ⊢
  obtain ⟨rfl, h6⟩ := errB_none (by rw [show ud1.1 = none from Option.isNone_iff_eq_none.1 f1.1.1] at h5; exact h5)
  refine ⟨_, _, _, _, _, _, rfl, al h6 fun b8 w6 h7 => c_stack h7 fun w7 h8 => ?_⟩
  refine ⟨_, _, _, _, _, _, _, _, _, _, _, _, _, _, _, _, _, _, _, _, _, _, _, rfl, ?_⟩
  refine c_Call0 (args := []) (fuel := 5) hw1 hM1 (gCall_B hB) (GivesU.nil _ none) (by decide) (by decide) h8 fun v2 a2 c2 ps2 w9 hw2 hM2 he2 h9 => ?_
  rw [show gCall [] ud1.2.M stG 5 65537 [] [] = ud2 from rfl] at hM2 h9 ⊢
  obtain ⟨rfl, h10⟩ := errB_none (by rw [show ud2.1 = none from Option.isNone_iff_eq_none.1 f2.1.1] at h9; exact h9)
  refine ⟨_, _, _, _, _, _, rfl, al h10 fun b9 w10 h11 => c_stack h11 fun w11 h12 => ?_⟩
  refine ⟨_, _, _, _, _, _, _, _, _, _, _, _, _, _, _, _, _, _, _, _, _, _, _, rfl, ?_⟩
  refine c_Call0 (args := []) (fuel := 5) hw2 hM2 (gCall_B (gCall_B hB)) (GivesU.nil _ none) (by decide) (by decide) h12 fun v3 a3 c3 ps3 w12 hw3 hM3 he3 h13 => ?_
  rw [show gCall [] ud2.2.M stG 5 65539 [] [] = ud3 from rfl] at hM3 h13 ⊢
  obtain ⟨rfl, h14⟩ : v3 = .iface 37 (.int .i64 14) ∧ _ := S.pur.1 (by rw [f3.1] at h13; exact h13)
  refine ⟨_, _, _, _, _, _, rfl, ?_⟩
  refine ⟨fun y w' => y = true ∧ w' = w12, ?_, ?_⟩
  · refine ift (by rw [f1.1.2]; rfl) (ift (by rw [f1.2]; rfl) (nq_nil (ift rfl ?_)))
    have l2 : ud2.2.ev.length = 1 := by have := congrArg List.length f2.1.2; simpa using this
    obtain ⟨e, he⟩ : ∃ e, ud2.2.ev = [e] := by
      exact List.length_eq_one_iff.1 l2
    have e1 : e.1 = 65537 := by have := f2.1.2; rw [he] at this; simpa using this
    refine ift (by rw [l2]; rfl) ?_
    have h15 : S w0 w12 (slR 49 3 (evs ud2.2.ev) a2 ud2.2.ev.length c2 * _) := h14.eq (show _ = slR 49 3 (evs ud2.2.ev) a2 ud2.2.ev.length c2 * (memA m r 8 ps3 * (slR 49 3 (evs ud3.2.ev) a3 ud3.2.ev.length c3 * (slR 49 3 (evs ud1.2.ev) a1 ud1.2.ev.length c1 * (rmemA mr 8 qs * (pts b1 (.cells #[.int .u8 195, .int .u8 244, .int .u8 195, .int .u8 235, .int .u8 254] 5 (0, 0)) * F))))) by ac_rfl)
    obtain ⟨ad, ha, hc⟩ := slR_rd h15 (i := 0) (by rw [he]; exact Nat.succ_pos _)
    rw [he] at hc
    rw [ha, he]
    refine ix_mk (by decide) (show (0 : Int) < ((1 : Nat) : Int) by decide) ⟨e.1, hc, ?_⟩
    refine ift (by rw [e1]; rfl) (ift (by rw [f2.2]; rfl) (nq_nil (ift rfl (ift (by rw [f3.2]; rfl) ⟨_, eq_code _ _ _ _ _, rfl, rfl⟩))))
  rintro _ y w14 ⟨rfl, rfl⟩
  exact k w14 ((h14.eq (show _ = (memA m r 8 ps3 * (slR 49 3 (evs ud3.2.ev) a3 ud3.2.ev.length c3 * (slR 49 3 (evs ud2.2.ev) a2 ud2.2.ev.length c2 * (slR 49 3 (evs ud1.2.ev) a1 ud1.2.ev.length c1 * (rmemA mr 8 qs * pts b1 (.cells #[.int .u8 195, .int .u8 244, .int .u8 195, .int .u8 235, .int .u8 254] 5 (0, 0))))))) * F by ac_rfl)).drop)
end Go.Sk
