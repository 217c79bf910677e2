/- Contracts of the layer guest (seat Z): Call. -/
import Derived.Test.YtnkdccidhjifmaaGreatGc
set_option linter.unusedVariables false
set_option linter.unusedSimpArgs false
namespace Go.Sk
open Go.RowKit Go.Proofs
variable {w0 w : World} {F G : Asrt} {R : Ending → World → Prop}
variable {T : TypeId} {b m r tb rg : Nat} {q : Int} {ps : List Pg} {p : Pr}
def argR : List Nat := [7, 6, 2]
def gArgs : Rg → Nat → List Int → Rg
  | g, _, [] => g
  | g, i, x :: l => gArgs (g.set (argR.getD i 0) x) (i + 1) l
theorem gArgs_snoc (x : Int) : ∀ (l : List Int) (g : Rg) (i : Nat), gArgs g i (l ++ [x]) = (gArgs g i l).set (argR.getD (i + l.length) 0) x
  | [], g, i => rfl
  | y :: l, g, i => by
    rw [List.cons_append, gArgs, gArgs_snoc x l, gArgs, List.length_cons, show i + 1 + l.length = i + (l.length + 1) by omega]
def gBack : List Int := bytesLE 1879048192 8
def gB (g : Rg) (args : List Int) : Rg := (gArgs g 0 args).set 4 (IntKind.u64.wrap ((gArgs g 0 args).r 4 - 8))
def gCall (L : List Int) (M : Mv) (g : Rg) (fuel : Nat) (x : Int) (args asked : List Int) : Er2 × Gs :=
  if (rWrite M 2 11 ((gB g args).r 4) gBack).isNone = true then gOn L fuel ⟨mvPut M (some ((gB g args).r 4, gBack)), (gB g args).ipTo x, fuel, [], asked⟩
  else (up2 (rWrite M 2 11 ((gB g args).r 4) gBack), ⟨M, gB g args, fuel, [], asked⟩)
def gVal (d : Er2 × Gs) : Int := if d.1.isNone = true then d.2.g.r 0 else 0
theorem rg_set (g : Rg) {n : Nat} (v : Int) (h : n < 16) : g.cells.toArray.setIfInBounds (0 + n * 1) (.int .u64 v) = (g.set n v).cells.toArray := by
  rcases n with _ | _ | _ | _ | _ | _ | _ | _ | _ | _ | _ | _ | _ | _ | _ | _ | n <;> first | rfl | omega
def backC (i : Nat) : Array Value := ((bytesLE 1879048192 i ++ List.replicate (8 - i) 0).map (Value.int .u8)).toArray
theorem backC_set {i : Nat} (h : i < 8) : (backC i).setIfInBounds (0 + (i : Int).toNat * 1) (.int .u8 (IntKind.u8.wrap (shrI .u64 1879048192 (8 * (i : Int))))) = backC (i + 1) := by
  rcases i with _ | _ | _ | _ | _ | _ | _ | _ | i
  all_goals first | omega | kernel_rfl
theorem backC_size {i : Nat} (h : i ≤ 8) : (backC i).size = 8 := by
  unfold backC
  simp [bytesLE_length]
  omega
theorem backC_all : (backC 8).toList = gBack.map (Value.int .u8) := by kernel_rfl
theorem backC_get : ∀ j, j < gBack.length → (backC 8)[0 + j]? = some (.int .u8 (gBack.getD j 0)) := by
  intro j hj
  rw [← Array.getElem?_toList, backC_all, Nat.zero_add]
  simp [hj, List.getD_eq_getElem?_getD]
theorem run_back (b : Nat) (w : World) : (Instr.sliceAt 103 (.pointer (some ⟨b, 0, none⟩)) none none none).run Tryz.prog w = .ok (.slice (some ⟨b, 0, none⟩) 8 8) w := by kernel_rfl
theorem c_WriteG {addr : Int} {l : List Int} {a : Option Addr} {c : Nat} (hw : wfs ps) (hn : l.length ≤ 100000) (hg : Gives F a l) (h : S w0 w (memA m r q ps * F))
    (k : ∀ v ps' w', PutIf ps ps' addr l (rWrite (mv ps) 2 11 addr l) → S w0 w' (errA (rWrite (mv ps) 2 11 addr l) v * (memA m r q ps' * F)) → R (.returned v) w') :
    Calls Tryz.prog 40 #[.pointer (some ⟨m, 0, none⟩), .int .u64 addr, .slice a l.length c] w R :=
  ok_vmem_Mem_Write _ _ _ _ _ (c_putG hw hn hg h fun v ps' w' hp h' => ⟨_, rfl, k v ps' w' hp h'⟩)
theorem gBack_B : ∀ x ∈ gBack, 0 ≤ x ∧ x < 256 := bytesLE_B _ _
set_option maxHeartbeats 1000000 in
theorem c_Call {L : Lk} {M : Mv} {g : Rg} {fuel : Nat} {x : Int} {args asked : List Int} {aa : Option Addr} {ac : Nat} (hw : wfs ps) (hM : mv ps = M) (hB : ∀ y, 0 ≤ M.byte y ∧ M.byte y < 256) (hL : L.l.length ≤ 9223372036854775807) (hg : GivesU F L.a L.l) (hga : GivesU F aa args) (hal : args.length ≤ 3)
    (ha : asked.length + 3 * fuel ≤ 1000000) (he : fuel ≤ 1000000) (h : S w0 w (memA m r q ps * (tabA tb L asked * F)))
    (k : ∀ v a c ps' w', wfs ps' → mv ps' = (gCall L.l M g fuel x args asked).2.M → Alk ps' ps →
      S w0 w' (errB (gCall L.l M g fuel x args asked).1 v * (memA m r q ps' * (tabA tb L (gCall L.l M g fuel x args asked).2.asked * (slR 49 3 (evs (gCall L.l M g fuel x args asked).2.ev) a (gCall L.l M g fuel x args asked).2.ev.length c * F)))) →
      R (.returned (.tuple #[.int .u64 (gVal (gCall L.l M g fuel x args asked)), .slice a (gCall L.l M g fuel x args asked).2.ev.length c, .int .i64 ((gCall L.l M g fuel x args asked).2.fuel : Int), v])) w') :
    Calls Tryz.prog 19 #[.pointer (some ⟨m, 0, none⟩), .iface 43 (.pointer (some ⟨tb, 0, none⟩)), g.val, .int .i64 (fuel : Int), .int .u64 x, .slice aa args.length ac] w R := by
  refine ok_guest_Call _ _ g.cells _ _ _ _ _ (al h fun b1 w1 h1 => ?_)
  refine ⟨fun y w' => y = false ∧ w' = w1, ift (decide_eq_false (by omega)) (ift rfl (nq_if (ift rfl ⟨decide_eq_false (by omega), rfl⟩))), ?_⟩
  rintro _ y w2 ⟨rfl, rfl⟩
  refine b_f rfl ?_
  refine ⟨fun y w' => ∃ i : Nat, y = i ∧ i ≤ args.length ∧ S w0 w' (pts b1 (.cells (gArgs g 0 (args.take i)).cells.toArray 25 (0, 0)) * (memA m r q ps * (tabA tb L asked * F))), fun y _ => (args.length - y).toNat, ⟨0, rfl, by omega, h1⟩, ?_⟩
  rintro _ y w3 ⟨i, rfl, hi, h3⟩
  refine dc (fun hlt => ?_) (fun hlt => ?_)
  · have hi' : i < args.length := by omega
    obtain ⟨ad, rfl, hc⟩ := hga w3 (sat_drop (sat_drop (sat_drop h3.sat))) i hi'
    refine ix_mk (by omega) (by omega) ⟨_, by rw [Int.toNat_natCast, Nat.mul_one]; exact hc, al h3 fun b4 w4 h4 => ?_⟩
    have hr : (#[.int .i64 7, .int .i64 6, .int .i64 2] : Array Value)[0 + (i : Int).toNat * 1]? = some (.int .i64 ((argR.getD i 0 : Nat) : Int)) := by
      have : i = 0 ∨ i = 1 ∨ i = 2 := by omega
      rcases this with rfl | rfl | rfl <;> rfl
    have hr2 : argR.getD i 0 < 16 := by
      have : i = 0 ∨ i = 1 ∨ i = 2 := by omega
      rcases this with rfl | rfl | rfl <;> decide
    refine ix_mk (by omega) (by omega) ⟨_, ld h4 hr, ⟨by omega, by omega⟩, ?_⟩
    refine st h4 (by rw [show (gArgs g 0 (args.take i)).cells.toArray.size = 23 from rfl, Nat.blt_eq, Int.toNat_natCast]; omega) fun w5 h5 => ?_
    rw [Int.toNat_natCast, rg_set _ _ hr2] at h5
    rw [wi64 (x := (i : Int) + 1) (by omega) (by omega)]
    refine ⟨⟨i + 1, by omega, by omega, ?_⟩, by simp only []; omega⟩
    have e : args.take (i + 1) = args.take i ++ [args.getD i 0] := by
      rw [List.take_add_one, List.getElem?_eq_getElem hi', List.getD_eq_getElem?_getD, List.getElem?_eq_getElem hi']
      rfl
    rw [e, gArgs_snoc, List.length_take, Nat.min_eq_left (by omega), Nat.zero_add]
    exact h5.drop
  obtain rfl : i = args.length := by omega
  rw [List.take_length] at h3
  refine al h3 fun b8 w4 h4 => ?_
  refine ⟨fun y w' => ∃ i : Nat, y = i ∧ i ≤ 8 ∧ S w0 w' (pts b8 (.cells (backC i) 103 (0, 0)) * (pts b1 (.cells (gArgs g 0 args).cells.toArray 25 (0, 0)) * (memA m r q ps * (tabA tb L asked * F)))), fun y _ => (8 - y).toNat, ⟨0, rfl, by omega, h4⟩, ?_⟩
  rintro _ y w5 ⟨i, rfl, hi, h5⟩
  refine dc (fun hlt => ?_) (fun hlt => ?_)
  · rw [wi64 (x := 8 * (i : Int)) (by omega) (by omega), wi64 (x := (i : Int) + 1) (by omega) (by omega)]
    refine ⟨by omega, ⟨by omega, by omega⟩, st h5 (by rw [backC_size (by omega), Nat.blt_eq, Int.toNat_natCast]; omega) fun w6 h6 => ⟨⟨i + 1, by omega, by omega, ?_⟩, by simp only []; omega⟩⟩
    rw [backC_set (by omega)] at h6
    exact h6
  obtain rfl : i = 8 := by omega
  refine ⟨_, ld h5 rfl, st h5 rfl fun w6 h6 => dr h6 fun w7 h7 => ⟨_, ld h7 rfl, _, _, _, w7, run_back b8 w7, rfl, _, ld h7 rfl, rfl, ?_⟩⟩
  have h8 : S w0 w7 (memA m r q ps * (pts b8 (.cells (backC 8) 103 (0, 0)) * (pts b1 (.cells (gB g args).cells.toArray 25 (0, 0)) * (tabA tb L asked * F)))) := h7.eq (by
    show pts b8 _ * (pts b1 (.cells (gB g args).cells.toArray 25 (0, 0)) * _) = _
    ac_rfl)
  have hgb : Gives (pts b8 (.cells (backC 8) 103 (0, 0)) * (pts b1 (.cells (gB g args).cells.toArray 25 (0, 0)) * (tabA tb L asked * F))) (some ⟨b8, 0, none⟩) gBack := Gives.at backC_get
  refine c_WriteG (addr := (gB g args).r 4) (l := gBack) hw (by decide) hgb h8 fun v ps' w9 hp h9 => ⟨_, rfl, nq_err h9 ?_⟩
  unfold gCall at k
  rw [hM] at hp h9 ⊢
  cases hwr : rWrite M 2 11 ((gB g args).r 4) gBack with
  | some e =>
    rw [hwr] at hp h9
    simp only [hwr, Option.isNone, Bool.false_eq_true, if_false] at k
    obtain rfl : ps' = ps := hp
    rw [← errB_up] at h9
    refine b_t rfl ?_
    refine k v none 0 ps' w9 hw hM (Alk.rfl _) ?_
    exact (h9.eq (show _ = (pts b8 (.cells (backC 8) 103 (0, 0)) * pts b1 (.cells (gB g args).cells.toArray 25 (0, 0))) * (errB (up2 (some e)) v * (memA m r q ps' * (tabA tb L asked * (slR 49 3 [] none 0 0 * F)))) by rw [slR_nil, emp_mul]; ac_rfl)).drop
  | none =>
    rw [hwr] at hp h9
    simp only [hwr, Option.isNone, if_true] at k
    obtain ⟨rfl, h10⟩ := err_none h9
    have hp' : Put ps ps' ((gB g args).r 4) gBack := hp
    have hmv : mv ps' = mvPut M (some ((gB g args).r 4, gBack)) := by rw [← hM]; exact Put.mv hp'
    refine b_f rfl (st h10 rfl fun w11 h11 => ?_)
    have h12 : S w0 w11 (memA m r q ps' * (pts b1 (.cells ((gB g args).ipTo x).cells.toArray 25 (0, 0)) * (tabA tb L asked * (pts b8 (.cells (backC 8) 103 (0, 0)) * F)))) := h11.eq (by
      show memA m r q ps' * (pts b8 _ * (pts b1 (.cells ((gB g args).ipTo x).cells.toArray 25 (0, 0)) * _)) = _
      ac_rfl)
    refine c_Run (L := L) (g := (gB g args).ipTo x) hp'.wf hmv (mvPut_B hB fun y hy => by cases hy; exact gBack_B) hL (hg.frame _) ha he h12 fun v a c ps2 w13 hw2 hM2 hes2 h13 => ⟨_, _, _, _, _, rfl, nq_errB h13 ?_⟩
    have hes : Alk ps2 ps := hes2.trans hp'.alk
    generalize gOn L.l fuel ⟨mvPut M (some ((gB g args).r 4, gBack)), (gB g args).ipTo x, fuel, [], asked⟩ = d at *
    have h14 : S w0 w13 (errB d.1 v * (memA m r q ps2 * (tabA tb L d.2.asked * (slR 49 3 (evs d.2.ev) a d.2.ev.length c * F)))) := (h13.eq (show _ = (pts b8 (.cells (backC 8) 103 (0, 0)) * pts b1 (.cells d.2.g.cells.toArray 25 (0, 0))) * _ by ac_rfl)).drop
    have k2 := k v a c ps2 w13 hw2 hM2 hes h14
    unfold gVal at k2
    cases hd : d.1 with
    | some e =>
      rw [hd] at k2
      exact b_t rfl k2
    | none =>
      rw [hd] at k2 h13
      obtain ⟨rfl, h15⟩ := errB_none h13
      exact b_f rfl ⟨_, ld h15 rfl, k2⟩
end Go.Sk
