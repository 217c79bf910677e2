/- The statement GuestTraps (seat Z): the law. -/
import Derived.Test.YtnkdccidhjifmaaGreatGf
import Derived.Laws.StructEq
set_option linter.unusedVariables false
set_option linter.unusedSimpArgs false
namespace Go.Sk
open Go.RowKit Go.Proofs
variable {w0 w : World} {F G : Asrt} {R : Ending → World → Prop}
variable {T : TypeId} {b m r tb rg : Nat} {q : Int} {ps : List Pg} {p : Pr}
def trc : List Int := [244, 72, 255, 207, 117, 250, 195]
def trM : Mv := mvPut (mv20 trc []) (some (135160, gBack))
def trR (j : Int) : Nat → Int := fun i => if i = 7 then j else if i = 4 then 135160 else 0
abbrev Fl := Bool × Bool × Bool × Bool × Bool
def trS (f : Nat → Int) (ip : Int) (x : Fl) (fuel : Nat) (ev : List (Int × Int × Int)) : Gs := ⟨trM, ⟨f, ip, 0, x.1, x.2.1, x.2.2.1, x.2.2.2.1, x.2.2.2.2⟩, fuel, ev, []⟩
def ka (x : Int) : Int := bAnd .u64 x (maskV 8)
def deV (x : Int) : Int := mLessV (ka x) 1 8
def deF (x : Int) (f : Fl) : Fl := (f.1, deV x == 0, topV (deV x) 8, (if !(topV (ka x) 8 == topV 1 8) then !(topV (deV x) 8 == topV (ka x) 8) else false), (onesV (deV x % 256)).tmod 2 == 0)
def deR (x : Int) : Nat → Int := fun i => if i = 7 then ka (deV x) else trR x i
theorem tr1 (j : Int) (c z s o p : Bool) (n fuel : Nat) (ev : List (Int × Int × Int)) : gOne [] n (trS (trR j) 65536 (c, z, s, o, p) fuel ev) = (false, none, trS (trR j) 65537 (c, z, s, o, p) n (ev ++ [(65536, 0, j)])) := by kernel_rfl
theorem tr2 (j : Int) (c z s o p : Bool) (n fuel : Nat) (ev : List (Int × Int × Int)) : gOne [] n (trS (trR j) 65537 (c, z, s, o, p) fuel ev) = (false, none, trS (deR j) 65540 (deF j (c, z, s, o, p)) n ev) := by kernel_rfl
theorem tr3a (j : Int) (c s o p : Bool) (n fuel : Nat) (ev : List (Int × Int × Int)) : gOne [] n (trS (trR j) 65540 (c, false, s, o, p) fuel ev) = (false, none, trS (trR j) 65536 (c, false, s, o, p) n ev) := by kernel_rfl
theorem tr3b (j : Int) (c s o p : Bool) (n fuel : Nat) (ev : List (Int × Int × Int)) : gOne [] n (trS (trR j) 65540 (c, true, s, o, p) fuel ev) = (false, none, trS (trR j) 65542 (c, true, s, o, p) n ev) := by kernel_rfl
theorem tr4a (j : Int) (c z s o p : Bool) (n fuel : Nat) (ev : List (Int × Int × Int)) : (gOn [] (n + 2) (trS (trR j) 65542 (c, z, s, o, p) fuel ev)).1.isNone = true := by kernel_rfl
theorem tr4b (j : Int) (c z s o p : Bool) (n fuel : Nat) (ev : List (Int × Int × Int)) : (gOn [] (n + 2) (trS (trR j) 65542 (c, z, s, o, p) fuel ev)).2.fuel = n := by kernel_rfl
theorem tr4c (j : Int) (c z s o p : Bool) (n fuel : Nat) (ev : List (Int × Int × Int)) : (gOn [] (n + 2) (trS (trR j) 65542 (c, z, s, o, p) fuel ev)).2.ev = ev := by kernel_rfl
theorem tand_ones (x : Int) : bAnd .u64 x 18446744073709551615 = x % 18446744073709551616 := by
  unfold bAnd
  have e : BitVec.ofInt 64 18446744073709551615 = BitVec.allOnes 64 := by decide
  show IntKind.u64.wrap ((((BitVec.ofInt 64 x) &&& BitVec.ofInt 64 18446744073709551615).toNat : Nat) : Int) = _
  rw [e, BitVec.and_allOnes, BitVec.toNat_ofInt, w64]
  omega
theorem tmask8 : maskV 8 = 18446744073709551615 := by kernel_rfl
theorem ka_eq {x : Int} (h0 : 0 ≤ x) (h1 : x < 18446744073709551616) : ka x = x := by unfold ka; rw [tmask8, tand_ones]; omega
theorem deV_eq {x : Int} (h0 : 1 ≤ x) (h1 : x < 18446744073709551616) : deV x = x - 1 := by
  unfold deV mLessV
  rw [ka_eq (by omega) h1, tmask8, tand_ones, w64]
  omega
theorem deR_eq {x : Int} (h0 : 1 ≤ x) (h1 : x < 18446744073709551616) : deR x = trR (x - 1) := by
  funext i
  unfold deR
  rw [deV_eq h0 h1, ka_eq (by omega) (by omega)]
  unfold trR
  split <;> rfl
theorem trOn {n : Nat} {s s' : Gs} (h : gOne [] n s = (false, none, s')) : gOn [] (n + 1) s = gOn [] n s' := by
  rw [gOn, h]
  rfl
theorem trRange (j : Nat) : ((List.range (j + 1 + 1)).map fun i => ((65536 : Int), (0 : Int), ((j + 1 + 1 : Nat) : Int) - (i : Nat))) = [(65536, 0, ((j + 1 + 1 : Nat) : Int))] ++ (List.range (j + 1)).map fun i => (65536, 0, ((j + 1 : Nat) : Int) - (i : Nat)) := by
  rw [List.range_succ_eq_map (n := j + 1), List.map_cons, List.map_map, List.singleton_append]
  have h1 : ((j + 1 + 1 : Nat) : Int) - ((0 : Nat) : Int) = ((j + 1 + 1 : Nat) : Int) := by omega
  rw [h1]
  refine congrArg _ (List.map_congr_left fun i hi => ?_)
  have h2 : ((j + 1 + 1 : Nat) : Int) - ((i + 1 : Nat) : Int) = ((j + 1 : Nat) : Int) - (i : Nat) := by omega
  show ((65536 : Int), (0 : Int), ((j + 1 + 1 : Nat) : Int) - ((i + 1 : Nat) : Int)) = _
  rw [h2]
theorem trFirst (j n fuel : Nat) (f : Fl) (ev : List (Int × Int × Int)) (hj : j < 1000) : ∃ u1 u2 u3 : Bool, gOn [] (n + 3 * j + 5) (trS (trR ((j + 1 : Nat) : Int)) 65536 f fuel ev) = gOn [] (n + 3 * j + 3) (trS (trR (j : Int)) 65540 (f.1, ((j : Int) == 0), u1, u2, u3) (n + 3 * j + 3) (ev ++ [(65536, 0, ((j + 1 : Nat) : Int))])) := by
  obtain ⟨c, z, s, o, p⟩ := f
  have e2 := tr2 ((j + 1 : Nat) : Int) c z s o p (n + 3 * j + 3) (n + 3 * j + 4) (ev ++ [(65536, 0, ((j + 1 : Nat) : Int))])
  rw [deR_eq (by omega) (by omega)] at e2
  unfold deF at e2
  rw [deV_eq (by omega) (by omega), show ((j + 1 : Nat) : Int) - 1 = (j : Int) by omega] at e2
  exact ⟨_, _, _, (trOn (tr1 _ c z s o p _ _ _)).trans (trOn e2)⟩
def trOk (n : Nat) (ev : List (Int × Int × Int)) (d : Er2 × Gs) : Prop := d.1.isNone = true ∧ d.2.fuel = n ∧ d.2.ev = ev
theorem trLoop (j : Nat) : ∀ (n fuel : Nat) (f : Fl) (ev : List (Int × Int × Int)), j < 1000 →
    trOk n (ev ++ (List.range (j + 1)).map fun i => (65536, 0, ((j + 1 : Nat) : Int) - (i : Nat))) (gOn [] (n + 3 * j + 5) (trS (trR ((j + 1 : Nat) : Int)) 65536 f fuel ev)) := by
  induction j with
  | zero =>
    intro n fuel f ev hj
    obtain ⟨u1, u2, u3, e⟩ := trFirst 0 n fuel f ev hj
    rw [e, show ((((0 : Nat) : Int)) == 0) = true from rfl, show n + 3 * 0 + 3 = (n + 2) + 1 by omega, trOn (tr3b _ _ _ _ _ _ _ _)]
    exact ⟨tr4a _ _ _ _ _ _ _ _ _, tr4b _ _ _ _ _ _ _ _ _, tr4c _ _ _ _ _ _ _ _ _⟩
  | succ j ih =>
    intro n fuel f ev hj
    obtain ⟨u1, u2, u3, e⟩ := trFirst (j + 1) n fuel f ev hj
    rw [e, show ((((j + 1 : Nat) : Int)) == 0) = false from beq_eq_false_iff_ne.2 (by omega), show n + 3 * (j + 1) + 3 = (n + 3 * j + 5) + 1 by omega, trOn (tr3a _ _ _ _ _ _ _ _)]
    have h := ih n (n + 3 * j + 5) (f.1, false, u1, u2, u3) (ev ++ [(65536, 0, ((j + 1 + 1 : Nat) : Int))]) (by omega)
    rw [List.append_assoc, ← trRange j] at h
    exact h
theorem trInit (k : Int) : (gB stG [k]).ipTo 65536 = ⟨trR k, 65536, 0, false, false, false, false, false⟩ := by
  show (⟨_, _, _, _, _, _, _, _⟩ : Rg) = _
  congr 1
  funext i
  show (if i = 4 then IntKind.u64.wrap (135168 - 8) else if i = 7 then k else if i = 4 then 135168 else 0) = trR k i
  unfold trR
  by_cases h4 : i = 4
  · subst h4; rfl
  · simp [h4]
theorem evs_get {l : List (Int × Int × Int)} {i j : Nat} (hi : i < l.length) (hj : j < 3) : (evs l)[i * 3 + j]? = (l[i]?).bind fun x => (ev3 x)[j]? := by
  induction l generalizing i with
  | nil => simp at hi
  | cons x l ih =>
    show (ev3 x ++ evs l)[i * 3 + j]? = _
    have h3 : (ev3 x).length = 3 := rfl
    cases i with
    | zero => rw [List.getElem?_append_left (by omega)]; simp
    | succ i =>
      rw [List.getElem?_append_right (by omega), h3, show (i + 1) * 3 + j - 3 = i * 3 + j by omega, ih (by simpa using hi)]
      simp
theorem trW : (rWrite (mv20 trc []) 2 11 135160 gBack).isNone = true := by kernel_rfl
theorem tr_call {k : Nat} (h0 : 1 ≤ k) (h1 : k ≤ 100) : trOk (1000 - 3 * k - 2) ((List.range k).map fun i => (65536, 0, (k : Int) - (i : Nat))) (gCall [] (mv20 trc []) stG 1000 65536 [(k : Int)] []) := by
  have e : gCall [] (mv20 trc []) stG 1000 65536 [(k : Int)] [] = gOn [] 1000 (trS (trR k) 65536 (false, false, false, false, false) 1000 []) := by
    unfold gCall
    rw [show (gB stG [(k : Int)]).r 4 = 135160 from rfl, if_pos trW, trInit]
    rfl
  rw [e]
  obtain ⟨j, rfl⟩ : ∃ j, k = j + 1 := ⟨k - 1, by omega⟩
  have := trLoop j (1000 - 3 * (j + 1) - 2) 1000 (false, false, false, false, false) [] (by omega)
  rw [show 1000 - 3 * (j + 1) - 2 + 3 * j + 5 = 1000 by omega] at this
  rwa [List.nil_append] at this
theorem info_u49 : Tryz.prog.underlying 49 = some (.struct (Tryz.prog.fieldsOf 49)) := by kernel_rfl
theorem part3 (i : Nat) (hi : i < 3) (a b c : Int) (w : World) : (part 22 #[.int .u64 a, .int .u64 b, .int .u64 c] i).run Tryz.prog w = .ok (.int .u64 ([a, b, c].getD i 0)) w := by
  rcases i with _ | _ | _ | i
  all_goals first | omega | kernel_rfl
theorem neq_ev (x y : Operand) (a b c : Int) (w : World) : eqRun Tryz.prog .neq 49 x y (.agg #[.int .u64 a, .int .u64 b, .int .u64 c]) (.agg #[.int .u64 a, .int .u64 b, .int .u64 c]) w false := by
  have hm : Tryz.prog.eqGuardType Tryz.prog.depth 49 = false := by kernel_rfl
  have hp : Tryz.prog.stoodInHeld 49 = false := by kernel_rfl
  have hi : ∀ (a b : Int), (Op.equalIn 9999 22 (.int .u64 a) (.int .u64 b)).run Tryz.prog w = .ok (a == b) w := fun a b => run_equalIn_int w 9998 22 .u64 .u64 a b Tryz.underlying22
  have p0 := part3 0 (by decide) a b c w
  have p1 := part3 1 (by decide) a b c w
  have p2 := part3 2 (by decide) a b c w
  unfold eqRun
  have e1 := run_eqGuard_agg (P := Tryz.prog) w .neq 49 x y #[.int .u64 a, .int .u64 b, .int .u64 c] #[.int .u64 a, .int .u64 b, .int .u64 c] hm
  have e2 : (binOp .neq 49 (.agg #[.int .u64 a, .int .u64 b, .int .u64 c]) (.agg #[.int .u64 a, .int .u64 b, .int .u64 c])).run Tryz.prog w = .ok (.bool false) w := by
    rw [run_neq_struct, show (10000 : Nat) = 9999 + 1 from rfl, run_equalIn_struct w 9999 49 _ _ info_u49 hp]
    simp only [Program.fieldsOf, Tryz.underlying49, Op.eqFields, Sem.run_bind, Sem.run_ite, p0, p1, p2, Result.andThen_ok, hi, Sem.run_pure]
    simp
  simp [e1, e2]
theorem GivesU.row {b : Nat} {l : List Int} {t : TypeId} : GivesU (pts b (.cells (u64v l).toArray t (0, 0)) * F) (some ⟨b, 0, none⟩) l := fun w hs j hj => ⟨_, rfl, by
  rw [Addr.add_lit, cellS hs]
  simp [u64v, hj, List.getD_eq_getElem?_getD]⟩
set_option maxHeartbeats 1000000 in
theorem c_GuestTraps {n : Int} (hn0 : 0 ≤ n) (hn1 : n < 256) (h : S w0 w F) (k : ∀ w', S w0 w' F → R (.returned (.bool true)) w') : Calls Tryz.prog 5 #[.int .u8 n] w R := by
  refine ok_shacklelaw20_GuestTraps _ (c_up20 h fun w1 h1 => ⟨_, rfl, al h1 fun b4 w2 h2 => ?_⟩)
  refine c_both20 (code := trc) (data := []) (cc := 7) (dcp := 0) (Gives.at (l := trc) (so := 0) (obj := #[.int .u8 244, .int .u8 72, .int .u8 255, .int .u8 207, .int .u8 117, .int .u8 250, .int .u8 195]) ?_) (Gives.nil _ none) (by decide) (by decide) h2 ?_
  · intro j hj
    have h7 : trc.length = 7 := rfl
    have : j = 0 ∨ j = 1 ∨ j = 2 ∨ j = 3 ∨ j = 4 ∨ j = 5 ∨ j = 6 := by omega
    rcases this with rfl | rfl | rfl | rfl | rfl | rfl | rfl <;> rfl
  intro m r ps mr qs w3 t h3
  have hB := mv20_B (code := trc) (data := []) (by unfold isB trc; decide) (by unfold isB; decide)
  obtain ⟨c, hc⟩ : ∃ c : Nat, (c : Int) = n % 100 + 1 := ⟨(n % 100 + 1).toNat, by omega⟩
  have hk : IntKind.u64.wrap (IntKind.u64.wrap (n.tmod 100) + 1) = (c : Int) := by
    rw [tmod_pos hn0, w64, w64]
    omega
  rw [hk]
  refine ⟨_, _, rfl, b_f rfl (al h3 fun b7 w4 h4 => c_stack h4 fun w5 h5 => ?_)⟩
  refine ⟨_, _, _, _, _, _, _, _, _, _, _, _, _, _, _, _, _, _, _, _, _, _, _, rfl, al h5 fun b8 w6 h6 => ?_⟩
  have h7 : S w0 w6 (pts b7 (.cells #[.slice none 0 0, .slice none 0 0] 46 (0, 0)) * (memA m r 8 ps * (pts b8 (.cells (u64v [(c : Int)]).toArray 22 (0, 0)) * (rmemA mr 8 qs * (pts b4 (.cells #[.int .u8 244, .int .u8 72, .int .u8 255, .int .u8 207, .int .u8 117, .int .u8 250, .int .u8 195] 5 (0, 0)) * F))))) := h6.eq (by
    show pts b8 (.cells (u64v [(c : Int)]).toArray 22 (0, 0)) * _ = _
    ac_rfl)
  refine c_Call0 (args := [(c : Int)]) (fuel := 1000) t.o.wf t.o.mv hB GivesU.row (by simp) (by decide) h7 fun v1 a1 c1 ps1 w7 hw1 hM1 he1 h8 => ?_
  have hd : trOk (1000 - 3 * c - 2) ((List.range c).map fun i => (65536, 0, (c : Int) - (i : Nat))) (gCall [] (mv20 trc []) stG 1000 65536 [(c : Int)] []) := tr_call (by omega) (by omega)
  generalize gCall [] (mv20 trc []) stG 1000 65536 [(c : Int)] [] = D at *
  obtain ⟨d1, d2, d3⟩ := hd
  have hn : D.1 = none := Option.isNone_iff_eq_none.1 d1
  obtain ⟨rfl, h9⟩ := errB_none (by rw [hn] at h8; exact h8)
  have hl : D.2.ev.length = c := by rw [d3]; simp
  refine ⟨_, _, _, _, _, _, rfl, ?_⟩
  rw [hl] at h9 ⊢
  rw [d2]
  refine ⟨fun y w' => y = false ∧ w' = w7, nq_nil (ift rfl (ift ?_ ⟨?_, rfl⟩)), ?_⟩
  · rw [w64_of (by omega) (by omega)]
    simp
  · rw [wi64 (x := (c : Int)) (by omega) (by omega), wi64 (x := 3 * (c : Int)) (by omega) (by omega), wi64 (x := 1000 - 3 * (c : Int)) (by omega) (by omega), wi64 (by omega) (by omega)]
    refine bne_eq_false_iff_eq.2 ?_
    omega
  rintro _ y w8 ⟨rfl, rfl⟩
  refine b_f rfl ?_
  refine ⟨fun y w' => ∃ i : Nat, y = i ∧ i ≤ c ∧ w' = w8, fun y _ => (c - y).toNat, ⟨0, rfl, by omega, rfl⟩, ?_⟩
  rintro _ y w9 ⟨i, rfl, hi, rfl⟩
  have h10 : S w0 w9 (slR 49 3 (evs D.2.ev) a1 c c1 * (memA m r 8 ps1 * (pts b8 (.cells (u64v [(c : Int)]).toArray 22 (0, 0)) * (rmemA mr 8 qs * (pts b4 (.cells #[.int .u8 244, .int .u8 72, .int .u8 255, .int .u8 207, .int .u8 117, .int .u8 250, .int .u8 195] 5 (0, 0)) * F))))) := h9.eq (mulL _ _ _)
  refine dc (fun hlt => ?_) (fun hlt => ?_)
  · have hi' : i < c := by omega
    have hg : ∀ j, j < 3 → (evs D.2.ev)[i * 3 + j]? = (ev3 (65536, 0, (c : Int) - (i : Nat)))[j]? := fun j hj => by
      rw [evs_get (by omega) hj, d3]
      simp [hi']
    have hlen : (evs D.2.ev).length = c * 3 := by rw [evs_length, hl]
    obtain ⟨ad, ha, hc0⟩ := slR_rd h10 (i := i * 3 + 0) (by omega)
    obtain ⟨ad1, ha1, hc1⟩ := slR_rd h10 (i := i * 3 + 1) (by omega)
    obtain ⟨ad2, ha2, hc2⟩ := slR_rd h10 (i := i * 3 + 2) (by omega)
    rw [hg _ (by decide)] at hc0 hc1 hc2
    obtain rfl := Option.some.inj (ha.symm.trans ha1)
    obtain rfl := Option.some.inj (ha.symm.trans ha2)
    rw [ha]
    refine ix_mk (by omega) (by omega) ⟨65536, ?_, 0, ?_, (c : Int) - (i : Int), ?_, false, ?_⟩
    · rw [Int.toNat_natCast]; exact hc0
    · rw [Int.toNat_natCast, Addr.add_add]; exact hc1
    · rw [Int.toNat_natCast, Addr.add_add]; exact hc2
    rw [w64_of (x := (c : Int) - (i : Int)) (by omega) (by omega), w64_of (x := (i : Int) + 1) (by omega) (by omega)]
    exact ⟨neq_ev _ _ _ _ _ _, b_f rfl ⟨⟨i + 1, by omega, by omega, rfl⟩, by simp only []; omega⟩⟩
  · exact k w9 ((h10.eq (show _ = (slR 49 3 (evs D.2.ev) a1 c c1 * (memA m r 8 ps1 * (pts b8 (.cells (u64v [(c : Int)]).toArray 22 (0, 0)) * (rmemA mr 8 qs * pts b4 (.cells #[.int .u8 244, .int .u8 72, .int .u8 255, .int .u8 207, .int .u8 117, .int .u8 250, .int .u8 195] 5 (0, 0)))))) * F by ac_rfl)).drop)
end Go.Sk
