/- What a law's row asks, for arguments that stay (seat Z). -/
import Derived.Test.YtnkdccidhjifmaaGreatCx
import Derived.WalkKit
import Derived.ProofKit
import Derived.OpenShut
import Derived.Below
import Derived.ChangeSame
import Derived.WideKeyArgs
import Derived.Carry
set_option linter.unusedVariables false
set_option linter.unusedSimpArgs false
namespace Go.Sk
open Go.RowKit Go.WideShapes Go.ChangeShapes Go.ChangeAt Go.Proofs
section
variable {H : Type} {enc : TypeId × Value → H} {P : Program}
theorem post_of_belowX {f : Func} {s : ChangeSpec} {apart fresh handsOn again : Bool} {W W' : World} {args : Array Value} {v : Value} {ds gs : List (DataW H)} {before pa pv : List MemPlace}
    (hW : DataW.Whole enc P f.params.toList s.vars apart W args.toList ds gs before)
    (hres : ∀ (b : Nat) (sp : Nat → Bool) (hd : Bool), DataW.TrodAll enc P W' b sp hd f.resultTypes.toList (v.resultList f.resultTypes.size) (s.fn H (ds ++ gs)).results [])
    (hargs : ∀ sp : Nat → Bool, (∀ p ∈ before, sp p.block = true) → DataW.TrodAll enc P W' 0 sp true f.params.toList args.toList (s.fn H (ds ++ gs)).args pa)
    (hvars : ∀ sp : Nat → Bool, (∀ p ∈ before, sp p.block = true) → DataW.TrodVars enc P W' sp s.vars (s.fn H (ds ++ gs)).vars pv)
    (hps : before = pa ++ pv) (hb : Below W.heap.size W W')
    (hok : ∀ (j : Nat) (t : TypeId) (r : Value), f.resultTypes[j]? = some t → (v.resultList f.resultTypes.size)[j]? = some r → Value.okWide P W' .any 0 t r) :
    s.post enc P f apart fresh handsOn again W args v W' := by
  have hlt : ∀ p ∈ before, p.block < W.heap.size := fun p hp => hW.lt p hp
  have hold : ∀ p ∈ before, (fun b => decide (b < W.heap.size)) p.block = true := fun p hp => by simpa using hlt p hp
  refine ⟨ds, gs, before, [], pa, pv, hW, hres _ _ _, hargs _ hold, hvars _ hold, World.keptBut_mono (fun p hp => ⟨hp, ?_⟩) (hb.frame (· ∈ before)), fun _ => ?_⟩
  · rw [hps, List.mem_append] at hp
    exact Or.inr hp
  · obtain ⟨_, _, _, _, _, hz, hn⟩ := hW
    refine ⟨hok, _, _, ([] ++ pa) ++ pv, ⟨[] ++ pa, pv, trodAll_append (hargs _ (fun _ _ => rfl)) (hres _ _ _), hvars _ (fun _ _ => rfl), rfl, ?_, ?_⟩, ?_⟩
    · intro b off hp
      have hin : MemPlace.cell b off ∈ before := by rw [hps]; simpa using hp
      rw [hb.frozen (hlt _ hin)]
      exact hz b off hin
    · intro ha
      have := hn ha
      rw [hps] at this
      simpa using this
    · intro p hp _
      rw [hps]
      simpa using hp
theorem stay_all (hl : laidOutB P = true) {W W' : World} (hb : Below W.heap.size W W') {sp : Nat → Bool} : ∀ {ts : List TypeId} {vs : List Value} {ds : List (DataW H)} {ps : List MemPlace},
    (∀ t ∈ ts, P.readableRec t = true ∧ t < P.types.size) → DataW.TrodAll enc P W 0 (fun _ => true) true ts vs ds ps → (∀ p ∈ ps, p.block < W.heap.size) → (∀ p ∈ ps, sp p.block = true) → DataW.TrodAll enc P W' 0 sp true ts vs ds ps
  | [], [], [], ps, _, h, _, _ => h
  | [], [], _ :: _, _, _, h, _, _ => h.elim
  | [], _ :: _, _, _, _, h, _, _ => by cases h
  | _ :: _, [], _, _, _, h, _, _ => by cases h
  | _ :: _, _ :: _, [], _, _, h, _, _ => by cases h
  | t :: ts, v :: vs, d :: ds, ps, hr, h, hlt, hsp => by
    obtain ⟨p, q, h1, h2, rfl⟩ := h
    have ht := hr t (.head _)
    exact ⟨p, q, WideElems.Trod_stays hl ht.1 ht.2 h1 (fun x hx => hb.same (hlt x (List.mem_append_left _ hx))) (fun x hx => hsp x (List.mem_append_left _ hx)),
      stay_all hl hb (fun t' h' => hr t' (.tail _ h')) h2 (fun x hx => hlt x (List.mem_append_right _ hx)) (fun x hx => hsp x (List.mem_append_right _ hx)), rfl⟩
end
def numV_ : Value → Int
  | .int _ a => a
  | _ => 0
def boolV_ : Value → Bool
  | .bool a => a
  | _ => false
def rgOf (cs : Array Value) : Rg := ⟨fun i => numV_ (cs.getD i undef), numV_ (cs.getD 16 undef), numV_ (cs.getD 17 undef), boolV_ (cs.getD 18 undef), boolV_ (cs.getD 19 undef), boolV_ (cs.getD 20 undef), boolV_ (cs.getD 21 undef), boolV_ (cs.getD 22 undef)⟩
set_option maxRecDepth 100000 in
theorem open_regs {w : World} {r : Reach} {base : Nat} {v : Value} (h : Value.okWide Tryz.prog w r base 25 v) : ∃ g : Rg, v = g.val := by
  unfold Value.okWide at h
  rw [Tryz.underlying25] at h
  obtain ⟨cs, rfl, hs, ts, ht, _, hc⟩ := h
  have hts : Tryz.prog.cellTypes Tryz.prog.depth 25 = some [22, 22, 22, 22, 22, 22, 22, 22, 22, 22, 22, 22, 22, 22, 22, 22, 22, 22, 4, 4, 4, 4, 4] := by kernel_rfl
  rw [hts] at ht
  cases ht
  have hsz : cs.size = 23 := hs.trans (by kernel_rfl)
  refine ⟨rgOf cs, ?_⟩
  have hi : ∀ i, i < 18 → ∃ n, cs[i]? = some (.int .u64 n) := fun i hi => by
    obtain ⟨v, hv⟩ : ∃ v, cs[i]? = some v := ⟨_, Array.getElem?_eq_getElem (by omega)⟩
    obtain ⟨u, hu, hk⟩ := hc i v hv
    have e : u = 22 := by
      rcases i with _ | _ | _ | _ | _ | _ | _ | _ | _ | _ | _ | _ | _ | _ | _ | _ | _ | _ | i
      all_goals first | omega | (simp at hu; exact hu.symm)
    subst e
    unfold Cell.okWide Cell.ok at hk
    rw [Tryz.underlying22] at hk
    cases v <;> simp at hk
    rename_i k n
    exact ⟨n, by rw [hv, hk.1]⟩
  have hb : ∀ i, 18 ≤ i → i < 23 → ∃ n, cs[i]? = some (.bool n) := fun i hi hi2 => by
    obtain ⟨v, hv⟩ : ∃ v, cs[i]? = some v := ⟨_, Array.getElem?_eq_getElem (by omega)⟩
    obtain ⟨u, hu, hk⟩ := hc i v hv
    have e : u = 4 := by
      obtain rfl | rfl | rfl | rfl | rfl : i = 18 ∨ i = 19 ∨ i = 20 ∨ i = 21 ∨ i = 22 := by omega
      all_goals (simp at hu; exact hu.symm)
    subst e
    unfold Cell.okWide Cell.ok at hk
    rw [Tryz.underlying4] at hk
    cases v <;> simp at hk
    rename_i n
    exact ⟨n, hv⟩
  show Value.agg cs = .agg (rgOf cs).cells.toArray
  congr 1
  apply Array.ext'
  apply List.ext_getElem?
  intro i
  rw [Array.getElem?_toList]
  by_cases h1 : i < 18
  · obtain ⟨n, hn⟩ := hi i h1
    have e : cs.getD i undef = .int .u64 n := by rw [Array.getD_eq_getD_getElem?, hn]; rfl
    rw [hn]
    rcases i with _ | _ | _ | _ | _ | _ | _ | _ | _ | _ | _ | _ | _ | _ | _ | _ | _ | _ | i
    all_goals first | omega | (show some (Value.int .u64 n) = some (.int .u64 (numV_ (cs.getD _ undef))); rw [e]; rfl)
  · by_cases h2 : i < 23
    · obtain ⟨n, hn⟩ := hb i (by omega) h2
      have e : cs.getD i undef = .bool n := by rw [Array.getD_eq_getD_getElem?, hn]; rfl
      rw [hn]
      obtain rfl | rfl | rfl | rfl | rfl : i = 18 ∨ i = 19 ∨ i = 20 ∨ i = 21 ∨ i = 22 := by omega
      all_goals (show some (Value.bool n) = some (.bool (boolV_ (cs.getD _ undef))); rw [e]; rfl)
    · rw [Array.getElem?_eq_none (by omega), List.getElem?_eq_none]
      show 23 ≤ i
      omega
end Go.Sk
