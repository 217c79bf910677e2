/- Own ground: maps whose keys are whole numbers, to which one writes new keys only. -/
import Derived.Test.YtnkdccidhjifmaaGreatSm
set_option linter.unusedVariables false
set_option linter.unusedSimpArgs false
namespace Go.Sk
open Go.RowKit

def mapE (k : IntKind) : Nat → List (Int × Value) → List MapEntry
  | _, [] => []
  | n, p :: es => ⟨.int k p.1, p.2, n⟩ :: mapE k (n + 1) es
def mapO (k : IntKind) (es : List (Int × Value)) : Obj := .map (mapE k 0 es).toArray es.length
theorem mapE_length (k : IntKind) : ∀ (es : List (Int × Value)) (n : Nat), (mapE k n es).length = es.length
  | [], _ => rfl
  | _ :: es, n => by simp [mapE, mapE_length k es]
theorem mapE_snoc (k : IntKind) (p : Int × Value) : ∀ (es : List (Int × Value)) (n : Nat), mapE k n (es ++ [p]) = mapE k n es ++ [⟨.int k p.1, p.2, n + es.length⟩]
  | [], n => by simp [mapE]
  | _ :: es, n => by simp [mapE, mapE_snoc k p es]; omega
theorem find_mapE (k : IntKind) (x : Int) : ∀ (es : List (Int × Value)) (n i : Nat), ∃ j, Instr.findNow (.int k) (.int k x) (mapE k n es) i = some ((es.lookup x).map fun v => (j, v))
  | [], _, i => ⟨0, rfl⟩
  | (a, v) :: es, n, i => by
    by_cases hx : x = a
    · subst hx
      exact ⟨i, by simp [mapE, Instr.findNow, Instr.sameNow]⟩
    · obtain ⟨j, hj⟩ := find_mapE k x es (n + 1) (i + 1)
      refine ⟨j, ?_⟩
      have : (x == a) = false := by simp [hx]
      simp [mapE, Instr.findNow, Instr.sameNow, this, List.lookup, hj]
theorem satAt {w0 w : World} {A : Asrt} {b : Nat} {o : Obj} {f : Obj → Asrt} (h : S w0 w A) [hA : At A b o f] : w.heap[b]? = some o := by
  obtain ⟨B, hB⟩ := hA.sp
  have h1 := h.sat
  rw [hA.eq, hB] at h1
  exact sat_get h1
theorem lk {P : Program} {w0 w : World} {A : Asrt} {r : Nat} {k : IntKind} {es : List (Int × Value)} {f : Obj → Asrt} {T K E : TypeId} {z : Value} (h : S w0 w A) [hA : At A r (mapO k es) f]
    (hT : P.underlying T = some (.map K E)) (hK : P.underlying K = some (.int k)) (hz : ∀ w, (zeroValue E).run P w = .ok z w) (x : Int) :
    (Instr.lookup T (.map (some r)) (.int k x) false).run P w = .ok ((es.lookup x).getD z) w := by
  have hb := satAt h (hA := hA)
  obtain ⟨j, hj⟩ := find_mapE k x es 0 0
  have hk : Go.MapKept.IsKey (.int k) (.int k x) := by simp [Go.MapKept.IsKey]
  cases hl : es.lookup x with
  | none => 
    rw [hl] at hj
    simp [Instr.lookup, run_underlying hT, Result.andThen, Go.MapKept.run_getObj_map hb, Go.MapKept.run_checkKey hK hk, Go.MapKept.run_findKey hK hj, hz]
  | some v => 
    rw [hl] at hj
    simp [Instr.lookup, run_underlying hT, Result.andThen, Go.MapKept.run_getObj_map hb, Go.MapKept.run_checkKey hK hk, Go.MapKept.run_findKey hK hj, hz]
theorem mu {P : Program} {w0 w : World} {A : Asrt} {r : Nat} {k : IntKind} {es : List (Int × Value)} {f : Obj → Asrt} {T K E : TypeId} {C : World → Prop} (h : S w0 w A) [hA : At A r (mapO k es) f]
    (hT : P.underlying T = some (.map K E)) (hK : P.underlying K = some (.int k)) {x : Int} {v : Value} (hn : es.lookup x = none)
    (c : ∀ w', S w0 w' (f (mapO k (es ++ [(x, v)]))) → C w') :
    ∃ w' : World, (Instr.mapUpdate T (.map (some r)) (.int k x) v).run P w = .ok () w' ∧ C w' := by
  have hb := satAt h (hA := hA)
  obtain ⟨j, hj⟩ := find_mapE k x es 0 0
  have hk : Go.MapKept.IsKey (.int k) (.int k x) := by simp [Go.MapKept.IsKey]
  rw [hn] at hj
  refine ⟨{ w with heap := w.heap.setIfInBounds r (mapO k (es ++ [(x, v)])) }, ?_, c _ ⟨?_, ?_⟩⟩
  · have e1 : mapO k (es ++ [(x, v)]) = .map ((mapE k 0 es).toArray.push { key := .int k x, val := v, born := es.length }) (es.length + 1) := by
      unfold mapO
      rw [mapE_snoc]
      simp
    rw [e1]
    simp [Instr.mapUpdate, run_underlying hT, Result.andThen, Go.MapKept.run_getObj_map hb, Go.MapKept.run_checkKey hK hk, Go.MapKept.run_findKey hK hj, Go.MapKept.run_setObj_map _ hb]
  · obtain ⟨B, hB⟩ := hA.sp
    have h1 := h.sat
    rw [hA.eq, hB] at h1
    rw [hB]
    have := Go.MapKept.heap_set (o' := mapO k (es ++ [(x, v)])) (sat_get h1)
    exact sat_upd h1 this.1 this.2
  · exact h.ext.trans ⟨rfl, rfl, rfl, by simp⟩
theorem mlen {P : Program} {w0 w : World} {A : Asrt} {r : Nat} {k : IntKind} {es : List (Int × Value)} {f : Obj → Asrt} {T K E : TypeId} {ty : TypeId} (h : S w0 w A) [hA : At A r (mapO k es) f]
    (hT : P.underlying T = some (.map K E)) : (Builtin.len_ #[T] ty #[.map (some r)]).run P w = .ok (.int .i64 es.length) w := by
  have hb := satAt h (hA := hA)
  simp [Builtin.len_, run_underlying hT, Result.andThen, Go.MapKept.run_getObj_map hb, goInt, mapE_length]
#print axioms mu
end Go.Sk
