/- Own ground: rows that a call owns, and maps with whole numbers for keys, as parts of memory. -/
import Derived.Test.YtnkdccidhjifmaaGreatSl
import Derived.OwnWalk
import Derived.ArgAppend
import Derived.MapKept
set_option linter.unusedVariables false
namespace Go.Sk
open Go.RowKit

theorem sat_new {w w' : World} {A : Asrt} {g : Nat} {o : Obj} (h : sat w A) (hg : w.grownBy w' none) (hge : w.heap.size ≤ g) (ho : w'.heap[g]? = some o) : sat w' (pts g o * A) := by
  obtain ⟨x, hx, hp⟩ := h
  have hlt : ∀ b o', x b = some o' → b < w.heap.size := fun b o' hb => (Array.getElem?_eq_some_iff.1 (hx b o' hb)).1
  have hd : dis (fun i => if i = g then some o else none) x := by
    intro i
    by_cases hi : i = g
    · refine .inr ?_
      cases hxi : x i with
      | none => rfl
      | some o' => have := hlt i o' hxi; omega
    · exact .inl (by simp [hi])
  refine ⟨uni (fun i => if i = g then some o else none) x, ?_, _, _, hd, rfl, rfl, hp⟩
  intro b o' hb
  unfold uni at hb
  by_cases hi : b = g
  · subst hi
    simp at hb
    subst hb
    exact ho
  · simp [hi] at hb
    rw [hg.block b (hlt b o' hb) (by simp)]
    exact hx b o' hb

/-- A slice of elements of one cell that is nobody else's. -/
def slA (e : TypeId) (l : List Value) : Option Addr → Nat → Nat → Asrt
  | none, n, c => pur (n = 0 ∧ c = 0 ∧ l = [])
  | some ad, n, c => ex fun rest : List Value => pur (ad = ⟨ad.block, 0, none⟩ ∧ n = l.length ∧ c = (l ++ rest).length ∧ c ≤ maxLen) * pts ad.block (.cells (l ++ rest).toArray e (0, 0))
theorem slA_nil (e : TypeId) : slA e [] none 0 0 = emp := by
  unfold slA
  exact pur_true ⟨rfl, rfl, rfl⟩
/-- Where a slice stands in an assertion. -/
class AtSl (A : Asrt) (a : Option Addr) (n c : Nat) (e : outParam TypeId) (l : outParam (List Value)) (f : outParam (Asrt → Asrt)) : Prop where
  eq : A = f (slA e l a n c)
  sp : ∃ B, ∀ x, f x = x * B
instance slHere {A : Asrt} {a : Option Addr} {n c : Nat} {e : TypeId} {l : List Value} : AtSl (slA e l a n c * A) a n c e l (fun x => x * A) := ⟨rfl, A, fun _ => rfl⟩
instance slNext {C A : Asrt} {a : Option Addr} {n c : Nat} {e : TypeId} {l : List Value} {f : Asrt → Asrt} [h : AtSl A a n c e l f] : AtSl (C * A) a n c e l (fun x => C * f x) :=
  ⟨by rw [← h.eq], by obtain ⟨B, hB⟩ := h.sp; exact ⟨C * B, fun x => by rw [hB, mulL]⟩⟩

theorem slA_cases {w : World} {e : TypeId} {l : List Value} {a : Option Addr} {n c : Nat} {B : Asrt} (h : sat w (slA e l a n c * B)) :
    (a = none ∧ n = 0 ∧ c = 0 ∧ l = [] ∧ sat w B) ∨ ∃ g rest, a = some ⟨g, 0, none⟩ ∧ n = l.length ∧ c = (l ++ rest).length ∧ c ≤ maxLen ∧ sat w (pts g (.cells (l ++ rest).toArray e (0, 0)) * B) := by
  cases a with
  | none =>
    have := sat_pur.1 h
    exact .inl ⟨rfl, this.1.1, this.1.2.1, this.1.2.2, this.2⟩
  | some ad =>
    obtain ⟨rest, h⟩ := sat_exm.1 h
    rw [mulA] at h
    have := sat_pur.1 h
    obtain ⟨⟨h1, h2, h3, h4⟩, h5⟩ := this
    exact .inr ⟨ad.block, rest, by rw [← h1], h2, h3, h4, h5⟩
theorem slA_mk {w : World} {e : TypeId} {l rest : List Value} {g c : Nat} {B : Asrt} (hc : c = (l ++ rest).length) (hm : c ≤ maxLen) (h : sat w (pts g (.cells (l ++ rest).toArray e (0, 0)) * B)) :
    sat w (slA e l (some ⟨g, 0, none⟩) l.length c * B) := by
  unfold slA
  refine sat_exm.2 ⟨rest, ?_⟩
  rw [mulA]
  exact sat_pur.2 ⟨⟨rfl, rfl, hc, hm⟩, h⟩
theorem slA_own {w w' : World} {e : TypeId} {l : List Value} {v : Value} {B : Asrt} (hB : sat w B) (hg : w.grownBy w' none) (ho : w'.ownsRow w.heap.size e 1 v l.length l) :
    ∃ a' c', v = .slice a' l.length c' ∧ sat w' (slA e l a' l.length c' * B) := by
  obtain ⟨_, ⟨hv, hn⟩ | ⟨g, cap, cur, hv, hge, hb, hn, hc, hs, ht⟩⟩ := ho
  · refine ⟨none, 0, by rw [hv, hn], ?_⟩
    unfold slA
    refine sat_pur.2 ⟨⟨hn, rfl, List.length_eq_zero_iff.1 hn⟩, ?_⟩
    refine sat_heap hB fun b o hb => ?_
    rw [hg.block b (Array.getElem?_eq_some_iff.1 hb).1 (by simp)]
    exact hb
  · refine ⟨some ⟨g, 0, none⟩, cap, hv, ?_⟩
    simp only [Nat.mul_one] at hs ht
    have e1 : cur = (l ++ cur.toList.drop l.length).toArray := by
      apply Array.toList_inj.1
      show cur.toList = l ++ cur.toList.drop l.length
      have := (List.take_append_drop l.length cur.toList).symm
      rw [ht] at this
      exact this
    refine slA_mk (rest := cur.toList.drop l.length) ?_ hc (sat_new hB hg hge (by rw [hb, ← e1]))
    have := congrArg Array.size e1
    rw [hs] at this
    simpa using this

theorem cellS {w : World} {b i : Nat} {c : Array Value} {t : TypeId} {f : Nat × Nat} {B : Asrt} (h : sat w (pts b (.cells c t f) * B)) : w.cell? ⟨b, i, none⟩ = c[i]? := cell_of (sat_get h)

/-- One more element. -/
theorem app_sl {P : Program} {w0 w : World} {A : Asrt} {a : Option Addr} {n c : Nat} {e : TypeId} {l : List Value} {f : Asrt → Asrt} {ad2 : Addr} {x : Value} {c2 : Nat} {t ty : TypeId} {K : Option Addr → Nat → Nat → World → Prop}
    (h : S w0 w A) [hA : AtSl A a n c e l f] {i : TypeInfo} {z : Value} {bytes : Nat} (ht : P.underlying t = some (.slice e)) (hi : P.info? e = some i) (hz : i.zero = some z) (hs : i.size = 1) (hby : i.bytes = bytes) (hzs : z.cells.size = 1)
    (hx : w.cell? ad2 = some x) (h1 : x.oneCell' = true) (hlen : l.length + 1 ≤ maxLen) (hbytes : (l.length + 1) * bytes ≤ 140737488355328)
    (k : ∀ a' n' c' w', S w0 w' (f (slA e (l ++ [x]) a' n' c')) → n' = l.length + 1 → K a' n' c' w') :
    ∃ (a' : Option Addr) (n' c' : Nat), ∃ w' : World, (Builtin.append_ #[t, t] ty #[.slice a n c, .slice (some ad2) 1 c2]).run P w = .ok (.slice a' n' c') w' ∧ K a' n' c' w' := by
  obtain ⟨B, hB⟩ := hA.sp
  have hsat := h.sat
  rw [hA.eq, hB] at hsat
  have hnews : ∀ j u, [x][j]? = some u → w.cell? (ad2.add j) = some u := by
    intro j u hj
    cases j with
    | zero => simp at hj; subst hj; simpa [Addr.add] using hx
    | succ j => simp at hj
  have h1' : ∀ u ∈ [x], u.oneCell' = true := by simpa using h1
  rcases slA_cases hsat with ⟨rfl, rfl, rfl, rfl, hs2⟩ | ⟨g, rest, rfl, rfl, hc, hm, hs2⟩
  · have hown : w.ownsRow w.heap.size e 1 (.slice none 0 0) 0 [] := ⟨rfl, .inl ⟨rfl, rfl⟩⟩
    obtain ⟨v', w', hr, ho, hg, _⟩ := run_append_own (P := P) w w.heap.size t ty e i z 1 bytes ht hi hz hs hby hzs (by decide) (.slice none 0 0) 0 [] hown ad2 1 c2 [x] rfl hnews h1' (by simpa using hlen) (by simpa using hbytes) (Nat.le_refl _)
    obtain ⟨a', c', rfl, hsl⟩ := slA_own (l := [x]) hs2 hg ho
    exact ⟨a', 1, c', w', hr, k _ _ _ _ ⟨by rw [hB]; exact hsl, h.ext.grown hg⟩ rfl⟩
  · by_cases hroom : l.length + 1 ≤ c
    · obtain ⟨r0, rest', rfl⟩ : ∃ r0 rest', rest = r0 :: rest' := by
        cases rest with
        | nil => simp at hc; omega
        | cons r0 r => exact ⟨r0, r, rfl⟩
      have hr := run_append_room_cells (P := P) w t ty e i ht hi g 0 l.length c ad2 1 c2 [x] (by simp [hs]) hnews h1' hroom
        (by intro j hj; simp at hj; subst hj; rw [cellS hs2]; simp [hs]) (by intro j hj; exact frozen_of (sat_get hs2))
      refine ⟨some ⟨g, 0, none⟩, l.length + 1, c, _, hr, k _ _ _ _ ⟨?_, ?_⟩ rfl⟩
      · rw [hB]
        have e0 : (0 + l.length * i.size) = l.length := by simp [hs]
        rw [e0]
        have hup : sat (w.setCells g l.length [x]) (pts g (.cells ((l ++ r0 :: rest').toArray.setIfInBounds l.length x) e (0, 0)) * B) := by
          have : w.setCells g l.length [x] = w.setCell ⟨g, l.length, none⟩ x := by
            simp [World.setCells, World.setCell]
          rw [this]
          exact sat_setCell hs2
        have e2 : ((l ++ r0 :: rest').toArray.setIfInBounds l.length x) = ((l ++ [x]) ++ rest').toArray := by
          apply Array.toList_inj.1
          simp
        rw [e2] at hup
        have := slA_mk (c := c) (by simp at hc ⊢; omega) hm hup
        simpa using this
      · show Ext w0 ((w.setCell _ x))
        exact h.ext.setCell _ x
    · obtain ⟨v', w', hr, ho, hg⟩ := run_append_arg_grows (P := P) w t ty e i z 1 bytes ht hi hz hs hby hzs (by decide) ⟨g, 0, none⟩ l.length c l (by simp)
        (by intro j u hj; have hlt : j < l.length := (List.getElem?_eq_some_iff.1 hj).1; rw [Addr.add_lit, cellS hs2]; simp [List.getElem?_append_left hlt, hj]) ad2 1 c2 [x] (by simp) hnews (by omega) hlen hbytes
      obtain ⟨a', c', rfl, hsl⟩ := slA_own (l := l ++ [x]) (sat_drop hs2) hg (by simpa using ho)
      refine ⟨a', _, c', w', hr, k _ _ _ _ ⟨by rw [hB]; simpa using hsl, h.ext.grown hg⟩ (by simp)⟩
#print axioms app_sl
end Go.Sk
