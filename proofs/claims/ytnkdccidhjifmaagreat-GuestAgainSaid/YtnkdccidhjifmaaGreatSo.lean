/- Contracts (seat Z): a memory's pages' numbers, rising. -/
import Derived.Test.YtnkdccidhjifmaaGreatSn
set_option linter.unusedVariables false
set_option linter.unusedSimpArgs false
namespace Go.Sk
open Go.RowKit Go.Proofs Go.Maps
open Go.WideElems (Fit rd rg rg_of rd_mk)
variable {w0 w : World} {F G : Asrt} {R : Ending → World → Prop}
structure NumsOk (ps : List Pg) : Prop where
  nodup : (ps.map (·.num)).Nodup
  range : ∀ p ∈ ps, 0 ≤ p.num ∧ p.num < 18446744073709551616
theorem mapE_born (k : IntKind) : ∀ (es : List (Int × Value)) (n : Nat), (mapE k n es).map (·.born) = List.range' n es.length
  | [], _ => rfl
  | p :: es, n => by simp [mapE, mapE_born k es, List.range'_succ]
theorem mapE_key (k : IntKind) : ∀ (es : List (Int × Value)) (n : Nat), (mapE k n es).map (·.key) = es.map fun p => .int k p.1
  | [], _ => rfl
  | p :: es, n => by simp [mapE, mapE_key k es]
theorem mapE_mem {k : IntKind} {x : MapEntry} : ∀ {es : List (Int × Value)} {n : Nat}, x ∈ mapE k n es → ∃ p ∈ es, x.key = .int k p.1
  | [], _, h => by cases h
  | p :: es, n, h => by
    rcases List.mem_cons.1 h with rfl | h
    · exact ⟨p, .head _, rfl⟩
    · obtain ⟨q, hq, e⟩ := mapE_mem h
      exact ⟨q, .tail _ hq, e⟩
def keyNum : Value → Int
  | .int _ a => a
  | _ => 0
theorem nums_rd {ps : List Pg} (h : NumsOk ps) {x : MapEntry} (hx : x ∈ mapE .u64 0 (memEs ps)) : ∃ p ∈ ps, rd Tryz.prog 22 trivR x = some (.int .u64 p.num, .nil) := by
  obtain ⟨e, he, hk⟩ := mapE_mem hx
  obtain ⟨p, hp, rfl⟩ := List.mem_map.1 he
  refine ⟨p, hp, ?_⟩
  have h2 := h.range p hp
  have hkey : keyOf Tryz.prog 22 x.key = some (.int .u64 p.num) := by
    rw [hk]
    simp only [keyOf, Tryz.underlying22, mapKey]
    have : (Lit.int .u64 p.num).wf = true := by
      have e0 : IntKind.u64.min = 0 := by decide
      have e1 : IntKind.u64.max = 18446744073709551615 := by kernel_rfl
      simp [Lit.wf, e0, e1]
      omega
    simp [this]
  unfold rd
  rw [hkey]
  rfl
theorem numsMap {ps : List Pg} (h : NumsOk ps) (hl : ps.length ≤ 12) : Fit Tryz.prog 22 trivR (mapE .u64 0 (memEs ps)).toArray (memEs ps).length := by
  refine ⟨?_, ⟨?_, ?_, ?_⟩, ?_⟩
  · simp [mapE_length, memEs]
    simp only [maxLen]
    omega
  · intro x hx
    have h1 : x.born ∈ (mapE .u64 0 (memEs ps)).map (·.born) := List.mem_map_of_mem hx
    rw [mapE_born, List.mem_range'_1] at h1
    omega
  · show ((mapE .u64 0 (memEs ps)).map (·.born)).Nodup
    rw [mapE_born]
    exact List.nodup_range'
  · show ((mapE .u64 0 (memEs ps)).map (·.key)).Nodup
    rw [mapE_key]
    have e : (memEs ps).map (fun p => Value.int .u64 p.1) = (ps.map (·.num)).map (Value.int .u64) := by simp [memEs]
    rw [e]
    refine List.pairwise_map.2 (h.nodup.imp fun {a b} hab e => hab ?_)
    injection e
  · intro x hx
    obtain ⟨p, _, e⟩ := nums_rd h hx
    exact ⟨_, e⟩
theorem numsKeys {ps : List Pg} (h : NumsOk ps) : (numKeys (DataW.map (((mapE .u64 0 (memEs ps)).map (rg Tryz.prog 22 trivR)).foldr DataW.insert []))).Perm (ps.map (·.num)) := by
  show (((((mapE .u64 0 (memEs ps)).map (rg Tryz.prog 22 trivR)).foldr DataW.insert [])).map fun p => numOf p.1).Perm _
  refine ((Go.WideShapes.sorted_perm _).map _).trans ?_
  rw [List.map_map]
  have e2 : ∀ x ∈ mapE .u64 0 (memEs ps), ((fun p : Lit × DataW Unit => numOf p.1) ∘ rg Tryz.prog 22 trivR) x = keyNum x.key := by
    intro x hx
    obtain ⟨p, _, e⟩ := nums_rd h hx
    obtain ⟨q, hq, hk⟩ := mapE_mem hx
    have hkk := WideElems.rd_key e
    obtain ⟨y, hy, hy2, _⟩ := keyOf_u64 Tryz.underlying22 hkk
    rw [hy]
    simp only [Function.comp, rg_of e]
    simp only [] at hy2
    rw [hy2]
    rfl
  rw [List.map_congr_left e2]
  have e3 : (mapE .u64 0 (memEs ps)).map (fun x => keyNum x.key) = ((mapE .u64 0 (memEs ps)).map (·.key)).map keyNum := by rw [List.map_map]; rfl
  rw [e3, mapE_key]
  have e4 : ((memEs ps).map (fun p => Value.int .u64 p.1)).map keyNum = ps.map (·.num) := by simp [memEs, keyNum]
  rw [e4]
theorem slA_ownB {w' : World} {e : TypeId} {l : List Value} {v : Value} {B : Asrt} (h : S w0 w B) (hg : Below w.heap.size w w') (ho : w'.ownsRow w.heap.size e 1 v l.length l) :
    ∃ a' c', v = .slice a' l.length c' ∧ S w0 w' (slA e l a' l.length c' * B) := by
  have hB : sat w' B := sat_heap h.sat fun b o hb => by
    rw [hg.block b (Array.getElem?_eq_some_iff.1 hb).1]; exact hb
  have hext : Ext w0 w' := h.ext.below hg
  have ho' := ho
  obtain ⟨_, ⟨hv, hn⟩ | ⟨g, cap, cur, hv, hge, hb, hn, hc, hs, ht⟩⟩ := ho
  · refine ⟨none, 0, by rw [hv, hn], ?_, hext⟩
    unfold slA
    exact sat_pur.2 ⟨⟨hn, rfl, List.length_eq_zero_iff.1 hn⟩, hB⟩
  · refine ⟨some ⟨g, 0, none⟩, cap, hv, ?_, hext⟩
    simp only [Nat.mul_one] at hs ht
    have e1 : cur = (l ++ cur.toList.drop l.length).toArray := by
      apply Array.toList_inj.1
      show cur.toList = l ++ cur.toList.drop l.length
      have := (List.take_append_drop l.length cur.toList).symm
      rw [ht] at this
      exact this
    refine slA_mk (rest := cur.toList.drop l.length) ?_ hc ?_
    · have := congrArg Array.size e1
      rw [hs] at this
      simpa using this
    · rw [← e1]
      obtain ⟨x, hx, hp⟩ := h.sat
      have hlt : ∀ b o', x b = some o' → b < w.heap.size := fun b o' hb => (Array.getElem?_eq_some_iff.1 (hx b o' hb)).1
      have hd : dis (fun i => if i = g then some (Obj.cells cur e (0, 0)) else none) x := by
        intro i
        by_cases hi : i = g
        · refine .inr ?_
          cases hxi : x i with
          | none => rfl
          | some o' => have := hlt i o' hxi; omega
        · exact .inl (by simp [hi])
      refine ⟨uni (fun i => if i = g then some (Obj.cells cur e (0, 0)) else none) x, ?_, _, _, hd, rfl, rfl, hp⟩
      intro b o' hb'
      unfold uni at hb'
      by_cases hi : b = g
      · subst hi
        simp at hb'
        subst hb'
        exact hb
      · simp [hi] at hb'
        rw [hg.block b (hlt b o' hb')]
        exact hx b o' hb'
theorem c_numbers {m r : Nat} {q : Int} {ps : List Pg} (hN : NumsOk ps) (hl : ps.length ≤ 12) (h : S w0 w (memA m r q ps * F))
    (k : ∀ (l : List Int) a n c w', l.Pairwise (· ≤ ·) → l.Perm (ps.map (·.num)) → S w0 w' (memA m r q ps * (slA 22 (l.map (Value.int .u64)) a n c * F)) → R (.returned (.slice a n c)) w') :
    Calls Tryz.prog 45 #[.pointer (some ⟨m, 0, none⟩)] w R := by
  refine ok_vmem_Mem_numbers _ ?_
  have h1 : S w0 w (pts m (.cells #[.int .i64 q, .map (some r)] 111 (0, 0)) * (pts r (mapO .u64 (memEs ps)) * (pgsA ps * F))) := h.eq (by unfold memA; ac_rfl)
  refine ⟨_, ld h1 rfl, ?_⟩
  refine ok_maps_Keys _ (al h1 fun b1 w2 h2 => ⟨_, rfl, ?_⟩)
  refine ok_slices_Sorted _ _ _ ?_
  have hm : w2.cell? ⟨b1, 0, none⟩ = some (.map (some r)) := ld h2 rfl
  have hr : w2.heap[r]? = some (mapO .u64 (memEs ps)) := satAt h2
  have hb1 : b1 < w2.heap.size := sat_lt h2.sat
  have hown : w2.ownsMap Tryz.prog 22 trivR r ps.length (.map (((mapE .u64 0 (memEs ps)).toArray.toList.map (rg Tryz.prog 22 trivR)).foldr DataW.insert [])) :=
    ⟨_, _, hr, numsMap hN hl, by simp [mapE_length, memEs], rfl⟩
  have hsize : Maps.size (DataW.map (((mapE .u64 0 (memEs ps)).toArray.toList.map (rg Tryz.prog 22 trivR)).foldr DataW.insert [])) = ps.length := by
    simp [Maps.size, length_sorted, mapE_length, memEs]
  have hseq := Kc.keys_gives Fence.wide 3 trivial rfl (by omega) b1 r ps.length _ w2 hb1 hm hown
  have hC := callsIn_wide.1 (Kc.collect_in Fence.wide 5 trivial trivial rfl (by omega) 109 #[.pointer (some ⟨b1, 0, none⟩)] trivial (enters_of Tryz.func109 (by kernel_rfl) rfl) _ _ (by rw [hsize]; simp only [maxLen]; omega) (by rw [hsize]; omega) w2 hseq)
  refine hC.mono ?_
  rintro e w3 ⟨v, ss, rfl, hS, hrow, hnil, hb⟩
  have hrow' : w3.ownsRow w2.heap.size 22 1 v (ss.map (Value.int .u64)).length (ss.map (Value.int .u64)) := by rw [List.length_map]; exact hrow
  obtain ⟨a', c', rfl, h3⟩ := slA_ownB h2 hb hrow'
  have hp : ss.Perm (ps.map (·.num)) := hS.trans (numsKeys hN)
  refine ⟨_, _, _, rfl, ?_⟩
  have h3' : S w0 w3 (slA 22 (u64s ss) a' (ss.map (Value.int .u64)).length c' * _) := h3
  refine c_Sort (by have := hp.length_eq; simp at this; omega) h3' fun l' w4 hp2 hs h4 => ⟨rfl, ?_⟩
  refine ⟨_, _, _, rfl, k l' a' _ c' w4 hs (hp2.trans hp) ?_⟩
  exact (h4.eq (show _ = pts b1 (.cells #[.map (some r)] 109 (0, 0)) * (memA m r q ps * (slA 22 (l'.map (Value.int .u64)) a' (ss.map (Value.int .u64)).length c' * F)) by
    unfold memA u64s
    ac_rfl)).drop
end Go.Sk
