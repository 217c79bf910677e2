/- Rows of elements of several cells that a call owns (seat Z). -/
import Derived.Test.YtnkdccidhjifmaaGreatSm
set_option linter.unusedVariables false
set_option linter.unusedSimpArgs false
namespace Go.Sk
open Go.RowKit
/-- A slice of elements of some cells that is nobody else's. -/
def slR (e : TypeId) (sz : Nat) (l : List Value) : Option Addr → Nat → Nat → Asrt
  | none, n, c => pur (n = 0 ∧ c = 0 ∧ l = [])
  | some ad, n, c => ex fun rest : List Value => pur (ad = ⟨ad.block, 0, none⟩ ∧ l.length = n * sz ∧ (l ++ rest).length = c * sz ∧ n ≤ c ∧ c ≤ maxLen) * pts ad.block (.cells (l ++ rest).toArray e (0, 0))
theorem slR_nil (e : TypeId) (sz : Nat) : slR e sz [] none 0 0 = emp := by
  unfold slR
  exact pur_true ⟨rfl, rfl, rfl⟩
class AtSlR (A : Asrt) (a : Option Addr) (n c : Nat) (e : outParam TypeId) (sz : outParam Nat) (l : outParam (List Value)) (f : outParam (Asrt → Asrt)) : Prop where
  eq : A = f (slR e sz l a n c)
  sp : ∃ B, ∀ x, f x = x * B
instance slRHere {A : Asrt} {a : Option Addr} {n c : Nat} {e : TypeId} {sz : Nat} {l : List Value} : AtSlR (slR e sz l a n c * A) a n c e sz l (fun x => x * A) := ⟨rfl, A, fun _ => rfl⟩
instance slRNext {C A : Asrt} {a : Option Addr} {n c : Nat} {e : TypeId} {sz : Nat} {l : List Value} {f : Asrt → Asrt} [h : AtSlR A a n c e sz l f] : AtSlR (C * A) a n c e sz l (fun x => C * f x) :=
  ⟨by rw [← h.eq], by obtain ⟨B, hB⟩ := h.sp; exact ⟨C * B, fun x => by rw [hB, mulL]⟩⟩
theorem slR_cases {w : World} {e : TypeId} {sz : Nat} {l : List Value} {a : Option Addr} {n c : Nat} {B : Asrt} (h : sat w (slR e sz l a n c * B)) :
    (a = none ∧ n = 0 ∧ c = 0 ∧ l = [] ∧ sat w B) ∨ ∃ g rest, a = some ⟨g, 0, none⟩ ∧ l.length = n * sz ∧ (l ++ rest).length = c * sz ∧ n ≤ c ∧ c ≤ maxLen ∧ sat w (pts g (.cells (l ++ rest).toArray e (0, 0)) * B) := by
  cases a with
  | none =>
    have := sat_pur.1 h
    exact .inl ⟨rfl, this.1.1, this.1.2.1, this.1.2.2, this.2⟩
  | some ad =>
    obtain ⟨rest, h⟩ := sat_exm.1 h
    rw [mulA] at h
    obtain ⟨⟨h1, h2, h3, h4, h5⟩, h6⟩ := sat_pur.1 h
    exact .inr ⟨ad.block, rest, by rw [← h1], h2, h3, h4, h5, h6⟩
theorem slR_mk {w : World} {e : TypeId} {sz : Nat} {l rest : List Value} {g n c : Nat} {B : Asrt} (hl : l.length = n * sz) (hc : (l ++ rest).length = c * sz) (hn : n ≤ c) (hm : c ≤ maxLen) (h : sat w (pts g (.cells (l ++ rest).toArray e (0, 0)) * B)) :
    sat w (slR e sz l (some ⟨g, 0, none⟩) n c * B) := by
  unfold slR
  refine sat_exm.2 ⟨rest, ?_⟩
  rw [mulA]
  exact sat_pur.2 ⟨⟨rfl, hl, hc, hn, hm⟩, h⟩
theorem slR_own {w w' : World} {e : TypeId} {sz n : Nat} {l : List Value} {v : Value} {B : Asrt} (hB : sat w B) (hg : w.grownBy w' none) (ho : w'.ownsRow w.heap.size e sz v n l) :
    ∃ a' c', v = .slice a' n c' ∧ sat w' (slR e sz l a' n c' * B) := by
  obtain ⟨hl, ⟨hv, hn⟩ | ⟨g, cap, cur, hv, hge, hb, hn, hc, hs, ht⟩⟩ := ho
  · refine ⟨none, 0, by rw [hv, hn], ?_⟩
    unfold slR
    refine sat_pur.2 ⟨⟨hn, rfl, List.length_eq_zero_iff.1 (by rw [hl, hn, Nat.zero_mul])⟩, ?_⟩
    refine sat_heap hB fun b o hb => ?_
    rw [hg.block b (Array.getElem?_eq_some_iff.1 hb).1 (by simp)]
    exact hb
  · refine ⟨some ⟨g, 0, none⟩, cap, hv, ?_⟩
    have e1 : cur = (l ++ cur.toList.drop (n * sz)).toArray := by
      apply Array.toList_inj.1
      show cur.toList = l ++ cur.toList.drop (n * sz)
      have := (List.take_append_drop (n * sz) cur.toList).symm
      rw [ht] at this
      exact this
    refine slR_mk (rest := cur.toList.drop (n * sz)) hl ?_ hn hc (sat_new hB hg hge (by rw [hb, ← e1]))
    have := congrArg Array.size e1
    rw [hs] at this
    simpa using this.symm
theorem setCells_sat {b : Nat} {t : TypeId} {B : Asrt} : ∀ (vs : List Value) (w : World) (c : Array Value) (i : Nat), sat w (pts b (.cells c t (0, 0)) * B) → sat (w.setCells b i vs) (pts b (.cells (putC c i vs) t (0, 0)) * B)
  | [], _, _, _, h => h
  | v :: vs, w, c, i, h => setCells_sat vs _ _ (i + 1) (sat_setCell h)
theorem setCells_ext {w0 : World} {b : Nat} : ∀ (vs : List Value) (w : World) (i : Nat), Ext w0 w → Ext w0 (w.setCells b i vs)
  | [], _, _, h => h
  | v :: vs, w, i, h => setCells_ext vs _ (i + 1) (h.setCell _ _)
theorem putC_at : ∀ (vs pre rest : List Value) (c : Array Value), c.toList = pre ++ rest → vs.length ≤ rest.length → (putC c pre.length vs).toList = pre ++ vs ++ rest.drop vs.length
  | [], pre, rest, c, h, _ => by simpa [putC] using h
  | v :: vs, pre, rest, c, h, hl => by
    cases rest with
    | nil => simp at hl
    | cons r rest =>
      unfold putC
      have h2 : (c.setIfInBounds pre.length v).toList = (pre ++ [v]) ++ rest := by
        rw [Array.toList_setIfInBounds, h]
        simp
      have := putC_at vs (pre ++ [v]) rest (c.setIfInBounds pre.length v) h2 (by simpa using hl)
      simpa using this
/-- More elements. -/
theorem app_slR {P : Program} {w0 w : World} {A : Asrt} {a : Option Addr} {n c : Nat} {e : TypeId} {sz : Nat} {l : List Value} {f : Asrt → Asrt} {ad2 : Addr} {xs : List Value} {m c2 : Nat} {t ty : TypeId} {K : Option Addr → Nat → Nat → World → Prop}
    (h : S w0 w A) [hA : AtSlR A a n c e sz l f] {i : TypeInfo} {z : Value} {bytes : Nat} (ht : P.underlying t = some (.slice e)) (hi : P.info? e = some i) (hz : i.zero = some z) (hs : i.size = sz) (hby : i.bytes = bytes) (hzs : z.cells.size = sz) (hpos : 0 < sz)
    (hx : ∀ j u, xs[j]? = some u → w.cell? (ad2.add j) = some u) (hxl : xs.length = m * sz) (h1 : ∀ u ∈ xs, u.oneCell' = true) (hlen : n + m ≤ maxLen) (hbytes : (n + m) * bytes ≤ 140737488355328)
    (k : ∀ a' c' w', S w0 w' (f (slR e sz (l ++ xs) a' (n + m) c')) → K a' (n + m) c' w') :
    ∃ (a' : Option Addr) (n' c' : Nat), ∃ w' : World, (Builtin.append_ #[t, t] ty #[.slice a n c, .slice (some ad2) m c2]).run P w = .ok (.slice a' n' c') w' ∧ K a' n' c' w' := by
  obtain ⟨B, hB⟩ := hA.sp
  have hsat := h.sat
  rw [hA.eq, hB] at hsat
  rcases slR_cases hsat with ⟨rfl, rfl, rfl, rfl, hs2⟩ | ⟨g, rest, rfl, hll, hc, hnc, hm, hs2⟩
  · have hown : w.ownsRow w.heap.size e sz (.slice none 0 0) 0 [] := ⟨by simp, .inl ⟨rfl, rfl⟩⟩
    obtain ⟨v', w', hr, ho, hg, _⟩ := run_append_own (P := P) w w.heap.size t ty e i z sz bytes ht hi hz hs hby hzs hpos (.slice none 0 0) 0 [] hown ad2 m c2 xs hxl hx h1 hlen hbytes (Nat.le_refl _)
    obtain ⟨a', c', rfl, hsl⟩ := slR_own (l := xs) hs2 hg ho
    exact ⟨a', _, c', w', hr, k _ _ _ ⟨by rw [hB]; exact hsl, h.ext.grown hg⟩⟩
  · by_cases hroom : n + m ≤ c
    · have hidx : ∀ j, j < xs.length → n * sz + j < (l ++ rest).length := fun j hj => by
        rw [hc]
        have : (n + m) * sz ≤ c * sz := Nat.mul_le_mul_right _ hroom
        rw [Nat.add_mul] at this
        omega
      have hr := run_append_room_cells (P := P) w t ty e i ht hi g 0 n c ad2 m c2 xs (by rw [hs]; exact hxl) hx h1 hroom
        (by intro j hj; rw [cellS hs2, hs, Nat.zero_add]; rw [List.getElem?_toArray, List.getElem?_eq_getElem (hidx j hj)]; rfl) (by intro j hj; exact frozen_of (sat_get hs2))
      refine ⟨some ⟨g, 0, none⟩, n + m, c, _, hr, k _ _ _ ⟨?_, ?_⟩⟩
      · rw [hB, hs, Nat.zero_add]
        have hup := setCells_sat xs w _ (n * sz) hs2
        have e2 : putC (l ++ rest).toArray (n * sz) xs = (l ++ xs ++ rest.drop xs.length).toArray := by
          apply Array.toList_inj.1
          rw [← hll]
          refine putC_at xs l rest _ rfl ?_
          have h8 : (n + m) * sz ≤ c * sz := Nat.mul_le_mul_right _ hroom
          rw [Nat.add_mul] at h8
          rw [List.length_append] at hc
          omega
        rw [e2] at hup
        refine slR_mk ?_ ?_ hroom hm hup
        · rw [List.length_append, hll, hxl, Nat.add_mul]
        · rw [List.length_append, List.length_append, List.length_drop]
          rw [List.length_append] at hc
          have := hidx
          have h7 : xs.length ≤ rest.length := by
            have h8 : (n + m) * sz ≤ c * sz := Nat.mul_le_mul_right _ hroom
            rw [Nat.add_mul] at h8
            omega
          omega
      · exact setCells_ext xs w _ h.ext
    · obtain ⟨v', w', hr, ho, hg⟩ := run_append_arg_grows (P := P) w t ty e i z sz bytes ht hi hz hs hby hzs hpos ⟨g, 0, none⟩ n c l hll
        (by intro j u hj; have hlt : j < l.length := (List.getElem?_eq_some_iff.1 hj).1; rw [Addr.add_lit, cellS hs2]; simp [List.getElem?_append_left hlt, hj]) ad2 m c2 xs hxl hx (by omega) hlen hbytes
      obtain ⟨a', c', rfl, hsl⟩ := slR_own (l := l ++ xs) (sat_drop hs2) hg ho
      exact ⟨a', _, c', w', hr, k _ _ _ ⟨by rw [hB]; exact hsl, h.ext.grown hg⟩⟩
end Go.Sk
