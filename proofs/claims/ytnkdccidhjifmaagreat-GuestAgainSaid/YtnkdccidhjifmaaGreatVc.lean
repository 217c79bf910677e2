/- Own ground: the condition under which a function's body does what is asked, reckoned from its text; and that it suffices. -/
import Derived.Test.YtnkdccidhjifmaaGreatBase
set_option linter.unusedVariables false
set_option linter.unusedSimpArgs false
namespace Go.Sk
open Go.RowKit

/-! ### Slots -/
abbrev Env := Nat → Value
def put (n : Nat) (e : Env) (d : Option Nat) (v : Value) : Env :=
  match d with
  | some d => if d < n then fun i => if i = d then v else e i else e
  | none => e
def ev (e : Env) : Operand → Value
  | .tmp t => e t
  | .const v => v
  | .global g => .pointer (some ⟨g, 0, none⟩)
  | .func f => .func (.func f) #[] #[]
structure Fits (n : Nat) (a : Act) (e : Env) : Prop where
  size : a.tmps.size = n
  defers : a.defers = []
  slot : ∀ i, a.tmps.getD i undef = e i
theorem Fits.ev {n : Nat} {a : Act} {e : Env} (h : Fits n a e) : a.eval = Sk.ev e := by
  funext x
  cases x with
  | tmp t => exact h.slot t
  | _ => rfl
theorem Fits.put {n : Nat} {a : Act} {e : Env} (h : Fits n a e) (d : Option Nat) (v : Value) : Fits n (a.put d v) (put n e d v) := by
  cases d with
  | none => exact h
  | some d =>
    refine ⟨by simp [Act.put, h.size], h.defers, fun i => ?_⟩
    have hs := h.slot i
    have hz := h.size
    simp only [Act.put, Sk.put]
    by_cases hd : d < n
    · rw [if_pos hd]
      by_cases hi : i = d
      · subst hi
        simp [hz, hd]
      · rw [if_neg hi, ← hs]
        have hi' : ¬ d = i := fun e => hi e.symm
        simp [Array.getElem?_setIfInBounds, hi', Array.getD_eq_getD_getElem?]
    · rw [if_neg hd, ← hs]
      rw [Array.setIfInBounds_eq_of_size_le (by omega)]

/-! ### Shapes of values: by the zero value of their type -/
mutual
def shapeEx : Nat → Value → (Value → Prop) → Prop
  | _, .int k _, K => ∃ x : Int, K (.int k x)
  | _, .bool _, K => ∃ x : Bool, K (.bool x)
  | _, .string _, K => ∃ x : ByteArray, K (.string x)
  | _, .pointer _, K => ∃ x : Option Addr, K (.pointer x)
  | _, .slice _ _ _, K => ∃ (x : Option Addr) (l c : Nat), K (.slice x l c)
  | _, .map _, K => ∃ x : Option Nat, K (.map x)
  | n + 1, .agg vs, K => if vs.size ≤ 40 then shapesEx n vs.toList [] fun l => K (.agg l.toArray) else ∃ cs : List Value, K (.agg cs.toArray)
  | n + 1, .tuple vs, K => shapesEx n vs.toList [] fun l => K (.tuple l.toArray)
  | _, _, K => ∃ v : Value, K v
def shapesEx : Nat → List Value → List Value → (List Value → Prop) → Prop
  | _, [], acc, K => K acc.reverse
  | 0, _, _, _ => False
  | n + 1, z :: zs, acc, K => shapeEx n z fun v => shapesEx n zs (v :: acc) K
end
mutual
theorem shapeEx_out : ∀ (n : Nat) (z : Value) (K : Value → Prop), shapeEx n z K → ∃ v, K v := by
  intro n z K h
  unfold shapeEx at h
  split at h
  · obtain ⟨x, h⟩ := h; exact ⟨_, h⟩
  · obtain ⟨x, h⟩ := h; exact ⟨_, h⟩
  · obtain ⟨x, h⟩ := h; exact ⟨_, h⟩
  · obtain ⟨x, h⟩ := h; exact ⟨_, h⟩
  · obtain ⟨x, l, c, h⟩ := h; exact ⟨_, h⟩
  · obtain ⟨x, h⟩ := h; exact ⟨_, h⟩
  · split at h
    · obtain ⟨l, h⟩ := shapesEx_out _ _ _ _ h; exact ⟨_, h⟩
    · obtain ⟨l, h⟩ := h; exact ⟨_, h⟩
  · obtain ⟨l, h⟩ := shapesEx_out _ _ _ _ h; exact ⟨_, h⟩
  · exact h
theorem shapesEx_out : ∀ (n : Nat) (zs acc : List Value) (K : List Value → Prop), shapesEx n zs acc K → ∃ l, K l := by
  intro n zs acc K h
  unfold shapesEx at h
  split at h
  · exact ⟨_, h⟩
  · exact h.elim
  · obtain ⟨v, h⟩ := shapeEx_out _ _ _ h
    exact shapesEx_out _ _ _ _ h
end
theorem shapeEx_mono : ∀ (n : Nat) (z : Value) (K K' : Value → Prop), (∀ v, K v → K' v) → shapeEx n z K → ∃ v, K' v :=
  fun n z K K' h k => let ⟨v, hv⟩ := shapeEx_out n z K k; ⟨v, h v hv⟩

def tyZero (P : Program) (t : TypeId) : Value := match P.info? t with | some i => i.zero.getD undef | none => undef
def tySize (P : Program) (t : TypeId) : Option Nat := match P.info? t with | some i => some i.size | none => none
def tyAgg (P : Program) (t : TypeId) : Option Bool := match P.underlying t with | some (.struct _) => some true | some (.array _ _) => some true | some _ => some false | none => none

/-! ### What is read and written -/
def rowAt (w : World) (ad : Addr) (cs : List Value) : Prop := ∀ i, i < cs.length → w.cell? (ad.add i) = cs[i]?
def ldList (w : World) (ad : Addr) : List Value → Nat → List Value → (List Value → Prop) → Prop
  | [], _, acc, K => K acc.reverse
  | z :: zs, i, acc, K => shapeEx 1 z fun v => w.cell? (ad.add i) = some v ∧ ldList w ad zs (i + 1) (v :: acc) K
def ldEx (P : Program) (t : TypeId) (ad : Addr) (w : World) (K : Value → Prop) : Prop :=
  match tyAgg P t, tyZero P t, tySize P t with
  | some false, z, _ => shapeEx 1 z fun v => w.cell? ad = some v ∧ K v
  | some true, .agg zs, some n =>
    if zs.size = n then
      (if n ≤ 40 then ldList w ad zs.toList 0 [] (fun l => K (.agg l.toArray)) else ∃ cs : List Value, cs.length = n ∧ rowAt w ad cs ∧ K (.agg cs.toArray))
    else False
  | _, _, _ => False

theorem loadCellsFrom_row (P : Program) (w : World) (ad : Addr) : ∀ (n i : Nat) (acc : Array Value) (cs : List Value), cs.length = n → (∀ j, j < n → w.cell? (ad.add (i + j)) = cs[j]?) →
    (loadCellsFrom ad i n acc).run P w = .ok (acc ++ cs.toArray) w := by
  intro n
  induction n with
  | zero => intro i acc cs hl _; cases cs with | nil => simp [loadCellsFrom, Sem.run, pure] | cons _ _ => simp at hl
  | succ n ih =>
    intro i acc cs hl h
    cases cs with
    | nil => simp at hl
    | cons c cs =>
      have h0 := h 0 (by omega)
      simp at h0
      have ih' := ih (i + 1) (acc.push c) cs (by simpa using hl) (fun j hj => by have := h (j + 1) (by omega); simpa [Nat.add_assoc, Nat.add_comm 1 j] using this)
      simp only [loadCellsFrom]
      have hb : ∀ {α β : Type} (x : Sem α) (f : α → Sem β) (v : α) , x.run P w = .ok v w → (x >>= f).run P w = (f v).run P w := fun x f v hx => by
        rw [Sem.run_bind, hx]; rfl
      rw [hb _ _ c (by simp [load, Sem.run, h0])]
      rw [ih']
      simp
theorem ldList_row {w : World} {ad : Addr} : ∀ (zs : List Value) (i : Nat) (acc : List Value) (K : List Value → Prop), ldList w ad zs i acc K →
    ∃ cs : List Value, cs.length = zs.length ∧ (∀ j, j < zs.length → w.cell? (ad.add (i + j)) = cs[j]?) ∧ K (acc.reverse ++ cs) := by
  intro zs
  induction zs with
  | nil => intro i acc K h; exact ⟨[], rfl, fun j hj => by simp at hj, by simpa [ldList] using h⟩
  | cons z zs ih =>
    intro i acc K h
    simp only [ldList] at h
    obtain ⟨v, hc, h⟩ := shapeEx_out _ _ _ h
    obtain ⟨cs, hl, hcs, hK⟩ := ih _ _ _ h
    refine ⟨v :: cs, by simp [hl], fun j hj => ?_, by simpa using hK⟩
    cases j with
    | zero => simpa using hc
    | succ j => have := hcs j (by simp at hj; omega); simpa [Nat.add_assoc, Nat.add_comm 1 j] using this
theorem tyAgg_false {P : Program} {t : TypeId} (h : tyAgg P t = some false) (w : World) : (isAgg t).run P w = .ok false w := by
  unfold tyAgg at h
  cases hu : P.underlying t with
  | none => simp [hu] at h
  | some d => cases d <;> simp_all [isAgg, underlying]
theorem tyAgg_true {P : Program} {t : TypeId} (h : tyAgg P t = some true) (w : World) : (isAgg t).run P w = .ok true w := by
  unfold tyAgg at h
  cases hu : P.underlying t with
  | none => simp [hu] at h
  | some d => cases d <;> simp_all [isAgg, underlying]
theorem tySize_run {P : Program} {t : TypeId} {n : Nat} (h : tySize P t = some n) (w : World) : (sizeOf t).run P w = .ok n w := by
  unfold tySize at h
  split at h
  · rename_i i hi
    cases h
    simp [sizeOf, typeInfo, Sem.run_bind, hi]
  · cases h
theorem ldEx_run {P : Program} {t : TypeId} {ad : Addr} {w : World} {K : Value → Prop} (h : ldEx P t ad w K) : ∃ v, (loadVar t ad).run P w = .ok v w ∧ K v := by
  unfold ldEx at h
  split at h
  · rename_i z _ hagg
    obtain ⟨v, hc, hK⟩ := shapeEx_out _ _ _ h
    refine ⟨v, ?_, hK⟩
    simp [loadVar, tyAgg_false hagg, hc]
  · rename_i zs n hagg _ hsz
    split at h
    · rename_i hn
      have key : ∃ cs : List Value, cs.length = n ∧ (∀ j, j < n → w.cell? (ad.add (0 + j)) = cs[j]?) ∧ K (.agg cs.toArray) := by
        split at h
        · obtain ⟨cs, hl, hc, hK⟩ := ldList_row _ _ _ _ h
          refine ⟨cs, by simpa [hn] using hl, fun j hj => hc j (by simpa [hn] using hj), by simpa using hK⟩
        · obtain ⟨cs, hl, hc, hK⟩ := h
          exact ⟨cs, hl, fun j hj => by rw [Nat.zero_add]; exact hc j (by omega), hK⟩
      obtain ⟨cs, hl, hc, hK⟩ := key
      refine ⟨_, ?_, hK⟩
      simp [loadVar, tyAgg_true hagg, tySize_run hsz, loadCells, loadCellsFrom_row P w ad n 0 #[] cs hl hc]
    · exact h.elim
  · exact h.elim

/-- A value that fits one cell. -/
def okCell : Value → Prop → Prop
  | .agg _, _ => False
  | .tuple _, _ => False
  | _, p => p
theorem okCell_out {v : Value} {p : Prop} (h : okCell v p) : v.oneCell' = true ∧ p := by
  cases v <;> first | exact h.elim | exact ⟨rfl, h⟩
def notRow : Obj → Prop
  | .cells .. => False
  | _ => True

/-! ### What is asked of a computation -/
def vc {α : Type} (P : Program) : Sem α → (α → World → Prop) → World → Prop
  | .pure a, K, w => K a w
  | .load _ a k, K, w => ∃ v, w.cell? a = some v ∧ vc P (k v) K w
  | .store _ a v k, K, w => okCell v ((∃ u, w.cell? a = some u) ∧ w.frozen? a = false ∧ ∀ w' : World, w' = w.setCell a v → vc P k K w')
  | .new o k, K, w => ∀ (b : Nat) (w' : World), b = w.heap.size → w' = w.alloc o → vc P (k b) K w'
  | .shape r k, K, w => vc P (k (w.shape? r)) K w
  | .freeze a n k, K, w => ∀ w' : World, w' = w.freeze a n → vc P k K w'
  | .frozen a k, K, w => vc P (k (w.frozen? a)) K w
  | .getObj r k, K, w => ∃ o, w.heap[r]? = some o ∧ notRow o ∧ vc P (k o) K w
  | .setObj r o k, K, w => (∃ o', w.heap[r]? = some o' ∧ notRow o') ∧ ∀ w' : World, w' = { w with heap := w.heap.setIfInBounds r o } → vc P k K w'
  | .choose q k, K, w => if q.forced then vc P (k 0) K w else ∀ (n : Nat) (w' : World), w' = w.drew → vc P (k (q.cut n)) K w'
  | .sys _ _, _, _ => False
  | .program k, K, w => vc P (k P) K w
  | .mark _ k, K, w => vc P k K w
  | .halt _, _, _ => False
theorem vc_run {α : Type} {P : Program} (s : Sem α) : ∀ {K : α → World → Prop} {w : World}, vc P s K w → ∃ x w', s.run P w = .ok x w' ∧ K x w' := by
  induction s with
  | pure a => intro K w h; exact ⟨a, w, rfl, h⟩
  | load m a k ih =>
    intro K w h
    obtain ⟨v, hc, h⟩ := h
    obtain ⟨x, w', hr, hK⟩ := ih v h
    exact ⟨x, w', by simp only [Sem.run, hc]; exact hr, hK⟩
  | store m a v k ih =>
    intro K w h
    obtain ⟨hv, ⟨u, hc⟩, hf, h⟩ := okCell_out h
    obtain ⟨x, w', hr, hK⟩ := ih (h _ rfl)
    refine ⟨x, w', ?_, hK⟩
    cases v <;> first | (simp [Value.oneCell'] at hv; done) | (simp only [Sem.run, hc, hf]; exact hr)
  | new o k ih =>
    intro K w h
    obtain ⟨x, w', hr, hK⟩ := ih _ (h _ _ rfl rfl)
    exact ⟨x, w', hr, hK⟩
  | shape r k ih => intro K w h; exact ih _ h
  | freeze a n k ih => intro K w h; exact ih (h _ rfl)
  | frozen a k ih => intro K w h; exact ih _ h
  | getObj r k ih =>
    intro K w h
    obtain ⟨o, ho, hn, h⟩ := h
    obtain ⟨x, w', hr, hK⟩ := ih o h
    refine ⟨x, w', ?_, hK⟩
    simp only [Sem.run, ho]
    cases o <;> first | exact hn.elim | exact hr
  | setObj r o k ih =>
    intro K w h
    obtain ⟨⟨o', ho, hn⟩, h⟩ := h
    obtain ⟨x, w', hr, hK⟩ := ih (h _ rfl)
    refine ⟨x, w', ?_, hK⟩
    simp only [Sem.run, ho]
    cases o' <;> first | exact hn.elim | exact hr
  | choose q k ih =>
    intro K w h
    simp only [vc] at h
    simp only [Sem.run]
    split at h
    · rename_i hq
      rw [if_pos hq]
      exact ih _ h
    · rename_i hq
      rw [if_neg hq]
      exact ih _ (h (w.tape w.drawn q) _ rfl)
  | sys c k ih => intro K w h; exact h.elim
  | program k ih => intro K w h; exact ih _ h
  | mark m k ih => intro K w h; exact ih h
  | halt h => intro K w h; exact h.elim

/-! ### What is asked of an operation -/
/-- All its cells can be written. -/
def canPut (w : World) (ad : Addr) (n : Nat) : Prop := ∀ i, i < n → (∃ u, w.cell? (ad.add i) = some u) ∧ w.frozen? (ad.add i) = false
def putList (w : World) (ad : Addr) : Nat → List Value → World
  | _, [] => w
  | i, v :: vs => putList (w.setCell (ad.add i) v) ad (i + 1) vs
def okCells : List Value → Prop → Prop
  | [], p => p
  | v :: vs, p => okCell v (okCells vs p)
def stc (w : World) (ad : Addr) (v : Value) (K : World → Prop) : Prop := (∃ u, w.cell? ad = some u) ∧ w.frozen? ad = false ∧ ∀ w' : World, w' = w.setCell ad v → K w'
def sts (w : World) (ad : Addr) (n : Nat) (cs : List Value) (K : World → Prop) : Prop := cs.length = n ∧ okCells cs (canPut w ad n ∧ ∀ w' : World, w' = putList w ad 0 cs → K w')
def stVC (P : Program) (t : TypeId) (ad : Addr) (v : Value) (w : World) (K : World → Prop) : Prop :=
  match tySize P t with
  | some n => (match v with
    | .agg cs => sts w ad n cs.toList K
    | .tuple _ => False
    | c => if n = 1 then okCell c (stc w ad c K) else False)
  | none => False
theorem add_ne {ad : Addr} {i j : Nat} (h : ad.spot = none) (hij : i ≠ j) : ad.add i ≠ ad.add j := by
  obtain ⟨b, o, s⟩ := ad
  simp at h
  subst h
  simp only [Addr.add]
  split <;> split <;> simp <;> omega
theorem cell_setCell_some {w : World} {a p : Addr} {v u : Value} (h : w.cell? p = some u) : ∃ u', (w.setCell a v).cell? p = some u' := by
  unfold World.cell? World.setCell at *
  by_cases hb : a.block = p.block
  · cases hh : w.heap[p.block]? with
    | none => simp [hh] at h
    | some o =>
      rw [hh] at h
      cases o with
      | cells c t f =>
        simp only [Array.getElem?_modify, hb, hh, if_true, Option.map_some]
        simp only at h ⊢
        by_cases hs : p.spot.isSome
        · simp [hs] at h
        · simp only [hs] at h ⊢
          simp only [Bool.false_eq_true, if_false] at h ⊢
          have hlt : p.off < c.size := (Array.getElem?_eq_some_iff.1 h).1
          split
          · exact ⟨u, h⟩
          · exact ⟨_, Array.getElem?_eq_getElem (by simpa using hlt)⟩
      | _ => simp at h
  · simp only [Array.getElem?_modify, if_neg hb]
    exact ⟨u, h⟩
theorem frozen_setCell {w : World} {a p : Addr} {v : Value} : (w.setCell a v).frozen? p = w.frozen? p := by
  unfold World.frozen? World.setCell
  by_cases hb : a.block = p.block
  · simp only [Array.getElem?_modify, hb, if_true]
    cases w.heap[p.block]? with
    | none => rfl
    | some o => cases o <;> rfl
  · simp only [Array.getElem?_modify, if_neg hb]
theorem run_storeCells {P : Program} {ad : Addr} : ∀ (vs : List Value) (i : Nat) (w : World) (p : Prop), okCells vs p → (∀ j, j < vs.length → (∃ u, w.cell? (ad.add (i + j)) = some u) ∧ w.frozen? (ad.add (i + j)) = false) →
    (storeCells ad vs i).run P w = .ok () (putList w ad i vs) ∧ p := by
  intro vs
  induction vs with
  | nil => intro i w p h _; exact ⟨rfl, h⟩
  | cons v vs ih =>
    intro i w p h hc
    obtain ⟨hv, hr⟩ := okCell_out h
    obtain ⟨⟨u, hu⟩, hf⟩ := hc 0 (by simp)
    simp only [Nat.add_zero] at hu hf
    have hc' : ∀ j, j < vs.length → (∃ u, (w.setCell (ad.add i) v).cell? (ad.add (i + 1 + j)) = some u) ∧ (w.setCell (ad.add i) v).frozen? (ad.add (i + 1 + j)) = false := fun j hj => by
      obtain ⟨⟨u', hu'⟩, hf'⟩ := hc (j + 1) (by simp; omega)
      have e : i + 1 + j = i + (j + 1) := by omega
      rw [e, frozen_setCell]
      exact ⟨cell_setCell_some hu', hf'⟩
    obtain ⟨h1, h2⟩ := ih (i + 1) (w.setCell (ad.add i) v) p hr hc'
    refine ⟨?_, h2⟩
    simp only [storeCells, Sem.run_bind, run_store P w _ v _ hv, hu, hf]
    exact h1
theorem okCells_out : ∀ (l : List Value) (p : Prop), okCells l p → okCells l True ∧ p := by
  intro l
  induction l with
  | nil => intro p h; exact ⟨trivial, h⟩
  | cons x l ih =>
    intro p h
    obtain ⟨hx, h'⟩ := okCell_out h
    obtain ⟨h1, h2⟩ := ih p h'
    refine ⟨?_, h2⟩
    cases x <;> first | (simp [Value.oneCell'] at hx; done) | exact h1
theorem stVC_run {P : Program} {t : TypeId} {ad : Addr} {v : Value} {w : World} {K : World → Prop} (h : stVC P t ad v w K) : ∃ w', (storeVar t ad v).run P w = .ok () w' ∧ K w' := by
  unfold stVC at h
  split at h
  · rename_i n hn
    have hz := tySize_run (P := P) hn
    have one : ∀ c : Value, c.cells = #[c] → (if n = 1 then okCell c (stc w ad c K) else False) → ∃ w', (storeVar t ad c).run P w = .ok () w' ∧ K w' := fun c hc h => by
      split at h
      · rename_i hn1
        obtain ⟨hv, ⟨u, hu⟩, hf, hK⟩ := okCell_out h
        refine ⟨_, ?_, hK _ rfl⟩
        simp only [storeVar, Sem.run_bind, hz, Result.andThen_ok, hc, storeCells, List.size_toArray, List.length_cons, List.length_nil, hn1, ne_eq, not_true_eq_false, if_false, Addr.add, if_true, run_store P w _ c _ hv, hu, hf]
        simp
      · exact h.elim
    split at h
    · rename_i cs
      obtain ⟨hl, h⟩ := h
      obtain ⟨hok, hcan, hK⟩ := okCells_out _ _ h
      refine ⟨_, ?_, hK _ rfl⟩
      have hr := (run_storeCells (P := P) (ad := ad) cs.toList 0 w True hok (fun j hj => by rw [Nat.zero_add]; exact hcan j (by simp at hl hj; omega))).1
      have hl' : cs.size = n := by simpa using hl
      simp only [storeVar, Sem.run_bind, hz, Result.andThen_ok, Value.cells, hl', ne_eq, not_true_eq_false, if_false]
      exact hr
    · exact h.elim
    · rename_i h1 h2
      refine one _ ?_ h
      cases v <;> first | rfl | (exact (h1 _ rfl).elim)
  · exact h.elim

/-! ### Operations that leave the world as it is -/
def Still {α : Type} (P : Program) (s : Sem α) : Prop := ∀ w x w', s.run P w = .ok x w' → w' = w
theorem Still.pure {α : Type} {P : Program} (a : α) : Still P (Pure.pure a : Sem α) := fun w x w' h => by cases h; rfl
theorem Still.bind {α β : Type} {P : Program} {s : Sem α} {f : α → Sem β} (h : Still P s) (k : ∀ a, Still P (f a)) : Still P (s >>= f) := fun w x w' hr => by
  rw [Sem.run_bind] at hr
  cases hs : s.run P w with
  | halt x y => rw [hs] at hr; cases hr
  | ok a w1 =>
    rw [hs] at hr
    have := h w a w1 hs
    subst this
    exact k a _ _ _ hr
theorem Still.map {α β : Type} {P : Program} {s : Sem α} {f : α → β} (h : Still P s) : Still P (f <$> s) := fun w x w' hr => by
  rw [Sem.run_map] at hr
  cases hs : s.run P w with
  | halt x y => rw [hs] at hr; cases hr
  | ok a w1 => rw [hs] at hr; cases hr; exact h w a _ hs
theorem Still.halt {α : Type} {P : Program} (x : Halt) : Still P (.halt x : Sem α) := fun w x w' h => by cases h
theorem Still.stuck {α : Type} {P : Program} (x : String) : Still P (Go.stuck x : Sem α) := fun w x w' h => by cases h
theorem Still.unsupported {α : Type} {P : Program} (x : Unsupported) : Still P (Go.unsupported x : Sem α) := fun w x w' h => by cases h
theorem Still.program {P : Program} : Still P Go.program := fun w x w' h => by cases h; rfl
theorem Still.load {P : Program} (a : Addr) : Still P (Go.load a) := fun w x w' h => by
  rw [run_load] at h
  split at h
  · cases h; rfl
  · split at h
    · cases h; rfl
    · cases h
theorem Still.ite {α : Type} {P : Program} {c : Prop} [Decidable c] {s t : Sem α} (h : Still P s) (k : Still P t) : Still P (if c then s else t) := by split <;> assumption
theorem Still.panic {α : Type} {P : Program} (x : RuntimeError) : Still P (runtimePanic x : Sem α) := by
  intro w y w' h
  exfalso
  revert h
  cases x <;> simp [runtimePanic]
  · generalize (Sem.run P (elemOf P.rt.typeAssertionError) w) = r
    cases r <;> simp
    rename_i t u
    generalize Sem.run P (newVar _ _) _ = r
    cases r <;> simp
  · generalize (Sem.run P (elemOf P.rt.panicNilError) w) = r
    cases r <;> simp
    rename_i t u
    generalize Sem.run P (newVar _ _) _ = r
    cases r <;> simp
theorem Still.bounds {α : Type} {P : Program} (k : IntKind) (x y : Int) (c : BoundsCode) : Still P (boundsPanic k x y c : Sem α) := by
  intro w r w' h
  exfalso
  revert h
  unfold boundsPanic
  dsimp only
  split
  · rw [Sem.run_bind]
    generalize Sem.run P ((fun x => x == 1) <$> choose (.extern "runtime.boundsError.signed" 2)) w = q
    cases q with
    | halt => intro h; cases h
    | ok b w1 => simp [runtimePanic]
  · simp [runtimePanic]
theorem Still.typeInfo {P : Program} (t : TypeId) : Still P (Go.typeInfo t) := by
  unfold Go.typeInfo
  refine Still.bind Still.program fun a => ?_
  split
  · exact Still.pure _
  · exact Still.stuck _
theorem Still.underlying {P : Program} (t : TypeId) : Still P (Go.underlying t) := by
  unfold Go.underlying
  refine Still.bind Still.program fun a => ?_
  split
  · exact Still.pure _
  · exact Still.stuck _
theorem Still.sizeOf {P : Program} (t : TypeId) : Still P (Go.sizeOf t) := by
  unfold Go.sizeOf
  exact Still.bind (Still.typeInfo _) fun _ => Still.pure _
theorem Still.isAgg {P : Program} (t : TypeId) : Still P (Go.isAgg t) := by
  unfold Go.isAgg
  refine Still.bind (Still.underlying _) fun a => ?_
  split <;> exact Still.pure _
theorem Still.loadCells {P : Program} (a : Addr) : ∀ (n i : Nat) (acc : Array Value), Still P (loadCellsFrom a i n acc) := by
  intro n
  induction n with
  | zero => intro i acc; exact Still.pure _
  | succ n ih => intro i acc; exact Still.bind (Still.load _) fun _ => ih _ _
theorem Still.loadVar {P : Program} (t : TypeId) (a : Addr) : Still P (Go.loadVar t a) := by
  unfold Go.loadVar
  refine Still.bind (Still.isAgg _) fun b => ?_
  split
  · refine Still.bind (Still.sizeOf _) fun n => ?_
    refine Still.bind (Still.loadCells _ _ _ _) fun _ => Still.pure _
  · exact Still.load _
theorem Still.part {P : Program} (t : TypeId) (cs : Array Value) (off : Nat) : Still P (Go.part t cs off) := by
  unfold Go.part
  refine Still.bind (Still.isAgg _) fun b => ?_
  split
  · exact Still.bind (Still.sizeOf _) fun _ => Still.pure _
  · split
    · exact Still.pure _
    · exact Still.stuck _
theorem Still.zeroValue {P : Program} (t : TypeId) : Still P (Go.zeroValue t) := by
  unfold Go.zeroValue
  refine Still.bind (Still.typeInfo _) fun i => ?_
  split
  · exact Still.pure _
  · exact Still.unsupported _
theorem Still.asIntOf {P : Program} (v : Value) : Still P (Go.asIntOf v) := by
  unfold Go.asIntOf
  split
  · exact Still.pure _
  · exact Still.unsupported _
  · exact Still.stuck _
theorem Still.sliceBound {P : Program} (x : Value) (y : Nat) (c : BoundsCode) : Still P (Instr.sliceBound x y c) := by
  unfold Instr.sliceBound
  refine Still.bind (Still.asIntOf _) fun ⟨k, i⟩ => ?_
  exact Still.ite (Still.pure _) (Still.bounds _ _ _ _)
theorem Still.bound {P : Program} (v : Option Value) (y d : Nat) (c : BoundsCode) : Still P (match v with | some v => Instr.sliceBound v y c | none => Pure.pure d : Sem Nat) := by
  cases v
  · exact Still.pure _
  · exact Still.sliceBound _ _ _

end Go.Sk
