/- Own ground: assertions on parts of memory, and contracts that leave all other memory as it is. -/
import Derived.WalkKit
import Derived.Deep.Draws
import Derived.KernelRfl
set_option linter.unusedVariables false
namespace Go.Sk
open Go.RowKit

/-! ### Parts of memory -/
abbrev PH := Nat → Option Obj
def dis (h k : PH) : Prop := ∀ i, h i = none ∨ k i = none
def uni (h k : PH) : PH := fun i => match h i with | some o => some o | none => k i
theorem dis_comm {h k : PH} (d : dis h k) : dis k h := fun i => (d i).symm
theorem uni_comm {h k : PH} (d : dis h k) : uni h k = uni k h := by
  funext i
  unfold uni
  rcases d i with e | e
  · rw [e]; cases k i <;> rfl
  · rw [e]; cases h i <;> rfl
theorem uni_none {h k : PH} {i : Nat} : uni h k i = none ↔ h i = none ∧ k i = none := by
  unfold uni
  cases h i <;> simp
theorem uni_assoc (h k l : PH) : uni (uni h k) l = uni h (uni k l) := by
  funext i
  unfold uni
  cases h i <;> rfl
theorem dis_uni_left {h k l : PH} : dis (uni h k) l ↔ dis h l ∧ dis k l := by
  constructor
  · intro d
    refine ⟨fun i => ?_, fun i => ?_⟩
    · rcases d i with e | e
      · exact .inl (uni_none.1 e).1
      · exact .inr e
    · rcases d i with e | e
      · exact .inl (uni_none.1 e).2
      · exact .inr e
  · rintro ⟨d1, d2⟩ i
    rcases d1 i with e | e
    · rcases d2 i with e' | e'
      · exact .inl (uni_none.2 ⟨e, e'⟩)
      · exact .inr e'
    · exact .inr e
theorem dis_uni_right {h k l : PH} : dis h (uni k l) ↔ dis h k ∧ dis h l :=
  ⟨fun d => by have := dis_uni_left.1 (dis_comm d); exact ⟨dis_comm this.1, dis_comm this.2⟩, fun ⟨a, b⟩ => dis_comm (dis_uni_left.2 ⟨dis_comm a, dis_comm b⟩)⟩

/-! ### Assertions -/
def Asrt := PH → Prop
instance : Mul Asrt := ⟨fun p q h => ∃ h1 h2, dis h1 h2 ∧ h = uni h1 h2 ∧ p h1 ∧ q h2⟩
theorem mul_def (p q : Asrt) (h : PH) : (p * q) h = ∃ h1 h2, dis h1 h2 ∧ h = uni h1 h2 ∧ p h1 ∧ q h2 := rfl
def emp : Asrt := fun h => h = fun _ => none
def pur (φ : Prop) : Asrt := fun h => (h = fun _ => none) ∧ φ
def pts (b : Nat) (o : Obj) : Asrt := fun h => h = fun i => if i = b then some o else none
def ex {α : Sort _} (f : α → Asrt) : Asrt := fun h => ∃ x, f x h
def tru : Asrt := fun _ => True

theorem mulC (p q : Asrt) : p * q = q * p := by
  funext h
  apply propext
  constructor <;> rintro ⟨h1, h2, d, e, hp, hq⟩ <;> exact ⟨h2, h1, dis_comm d, by rw [e, uni_comm d], hq, hp⟩
theorem mulA (p q r : Asrt) : p * q * r = p * (q * r) := by
  funext h
  apply propext
  constructor
  · rintro ⟨h12, h3, d, e, ⟨h1, h2, d', e', hp, hq⟩, hr⟩
    subst e'
    have ⟨d1, d2⟩ := dis_uni_left.1 d
    exact ⟨h1, uni h2 h3, dis_uni_right.2 ⟨d', d1⟩, by rw [e, uni_assoc], hp, h2, h3, d2, rfl, hq, hr⟩
  · rintro ⟨h1, h23, d, e, hp, h2, h3, d', e', hq, hr⟩
    subst e'
    have ⟨d1, d2⟩ := dis_uni_right.1 d
    exact ⟨uni h1 h2, h3, dis_uni_left.2 ⟨d2, d'⟩, by rw [e, uni_assoc], ⟨h1, h2, d1, rfl, hp, hq⟩, hr⟩
theorem mulL (p q r : Asrt) : p * (q * r) = q * (p * r) := by rw [← mulA, mulC p q, mulA]
instance : Std.Associative (α := Asrt) (· * ·) := ⟨mulA⟩
instance : Std.Commutative (α := Asrt) (· * ·) := ⟨mulC⟩
theorem emp_mul (p : Asrt) : emp * p = p := by
  funext h
  apply propext
  constructor
  · rintro ⟨h1, h2, d, e, he, hp⟩
    have he' : h1 = fun _ => none := he
    subst he'
    have : h = h2 := by rw [e]; rfl
    rw [this]; exact hp
  · intro hp
    exact ⟨fun _ => none, h, fun i => .inl rfl, rfl, rfl, hp⟩
theorem mul_emp (p : Asrt) : p * emp = p := by rw [mulC, emp_mul]
theorem pur_mul (φ : Prop) (p : Asrt) (h : PH) : (pur φ * p) h ↔ φ ∧ p h := by
  constructor
  · rintro ⟨h1, h2, d, e, ⟨he, hφ⟩, hp⟩
    subst he
    have : h = h2 := by rw [e]; rfl
    rw [this]; exact ⟨hφ, hp⟩
  · rintro ⟨hφ, hp⟩
    exact ⟨fun _ => none, h, fun i => .inl rfl, rfl, ⟨rfl, hφ⟩, hp⟩
theorem pur_true {φ : Prop} (hφ : φ) : pur φ = emp := by
  funext h
  apply propext
  exact ⟨fun ⟨e, _⟩ => e, fun e => ⟨e, hφ⟩⟩
theorem ex_mul {α : Sort _} (f : α → Asrt) (p : Asrt) : ex f * p = ex fun x => f x * p := by
  funext h
  apply propext
  constructor
  · rintro ⟨h1, h2, d, e, ⟨x, hx⟩, hp⟩; exact ⟨x, h1, h2, d, e, hx, hp⟩
  · rintro ⟨x, h1, h2, d, e, hx, hp⟩; exact ⟨h1, h2, d, e, ⟨x, hx⟩, hp⟩

/-! ### What holds in a world: of a part of it -/
def sat (w : World) (p : Asrt) : Prop := ∃ h : PH, (∀ b o, h b = some o → w.heap[b]? = some o) ∧ p h

theorem sat_imp {w : World} {p q : Asrt} (h : sat w p) (k : ∀ x, p x → q x) : sat w q := by
  obtain ⟨x, hx, hp⟩ := h
  exact ⟨x, hx, k x hp⟩
theorem sat_frame {w : World} {p q r : Asrt} (h : sat w (p * r)) (k : ∀ x, p x → q x) : sat w (q * r) :=
  sat_imp h fun _ ⟨h1, h2, d, e, hp, hr⟩ => ⟨h1, h2, d, e, k _ hp, hr⟩
theorem sat_drop {w : World} {p q : Asrt} (h : sat w (p * q)) : sat w q := by
  obtain ⟨x, hx, h1, h2, d, e, hp, hq⟩ := h
  refine ⟨h2, fun b o hb => hx b o ?_, hq⟩
  have : h1 b = none := (d b).resolve_right (by rw [hb]; simp)
  rw [e]
  unfold uni
  rw [this]
  exact hb
theorem sat_left {w : World} {p q : Asrt} (h : sat w (p * q)) : sat w p := sat_drop (by rw [mulC]; exact h)
theorem sat_pur {w : World} {φ : Prop} {p : Asrt} : sat w (pur φ * p) ↔ φ ∧ sat w p := by
  constructor
  · rintro ⟨x, hx, hp⟩
    have ⟨a, b⟩ := (pur_mul φ p x).1 hp
    exact ⟨a, x, hx, b⟩
  · rintro ⟨a, x, hx, b⟩
    exact ⟨x, hx, (pur_mul φ p x).2 ⟨a, b⟩⟩
theorem sat_ex {α : Sort _} {w : World} {f : α → Asrt} : sat w (ex f) ↔ ∃ x, sat w (f x) := by
  constructor
  · rintro ⟨x, hx, y, hy⟩; exact ⟨y, x, hx, hy⟩
  · rintro ⟨y, x, hx, hy⟩; exact ⟨x, hx, y, hy⟩
theorem sat_exm {α : Sort _} {w : World} {f : α → Asrt} {p : Asrt} : sat w (ex f * p) ↔ ∃ x, sat w (f x * p) := by
  rw [ex_mul]; exact sat_ex
theorem sat_get {w : World} {b : Nat} {o : Obj} {p : Asrt} (h : sat w (pts b o * p)) : w.heap[b]? = some o := by
  obtain ⟨x, hx, h1, h2, d, e, hp, hq⟩ := h
  refine hx b o ?_
  rw [e]
  have hp' : h1 = fun i => if i = b then some o else none := hp
  rw [hp']
  simp [uni]
theorem sat_lt {w : World} {b : Nat} {o : Obj} {p : Asrt} (h : sat w (pts b o * p)) : b < w.heap.size :=
  (Array.getElem?_eq_some_iff.1 (sat_get h)).1
theorem sat_ne {w : World} {b c : Nat} {o o' : Obj} {p : Asrt} (h : sat w (pts b o * (pts c o' * p))) : b ≠ c := by
  obtain ⟨x, hx, h1, h2, d, e, hp, h3, h4, d', e', hq, hr⟩ := h
  intro hbc
  subst hbc
  have hp' : h1 = fun i => if i = b then some o else none := hp
  have hq' : h3 = fun i => if i = b then some o' else none := hq
  rcases d b with k | k
  · rw [hp'] at k; simp at k
  · rw [e', hq'] at k; simp [uni] at k
theorem sat_alloc {w : World} {p : Asrt} (o : Obj) (h : sat w p) : sat (w.alloc o) (pts w.heap.size o * p) := by
  obtain ⟨x, hx, hp⟩ := h
  have hlt : ∀ b o', x b = some o' → b < w.heap.size := fun b o' hb => (Array.getElem?_eq_some_iff.1 (hx b o' hb)).1
  have hd : dis (fun i => if i = w.heap.size then some o else none) x := by
    intro i
    by_cases hi : i = w.heap.size
    · refine .inr ?_
      cases hxi : x i with
      | none => rfl
      | some o' => have := hlt i o' hxi; omega
    · exact .inl (by simp [hi])
  refine ⟨uni (fun i => if i = w.heap.size then some o else none) x, ?_, _, _, hd, rfl, rfl, hp⟩
  intro b o' hb
  unfold uni at hb
  show (w.heap.push o)[b]? = some o'
  by_cases hi : b = w.heap.size
  · subst hi
    simp at hb
    subst hb
    simp
  · simp [hi] at hb
    have := hlt b o' hb
    rw [Array.getElem?_push, if_neg hi]
    exact hx b o' hb
/-- One block is written. -/
theorem sat_upd {w w' : World} {b : Nat} {o o' : Obj} {p : Asrt} (h : sat w (pts b o * p)) (hb : w'.heap[b]? = some o')
    (hk : ∀ c, c ≠ b → w'.heap[c]? = w.heap[c]?) : sat w' (pts b o' * p) := by
  obtain ⟨x, hx, h1, h2, d, e, hp, hq⟩ := h
  have hp' : h1 = fun i => if i = b then some o else none := hp
  have hd : dis (fun i => if i = b then some o' else none) h2 := by
    intro i
    by_cases hi : i = b
    · rcases d i with k | k
      · rw [hp'] at k; simp [hi] at k
      · exact .inr k
    · exact .inl (by simp [hi])
  refine ⟨uni (fun i => if i = b then some o' else none) h2, ?_, _, _, hd, rfl, rfl, hq⟩
  intro c o2 hc
  unfold uni at hc
  by_cases hi : c = b
  · subst hi
    simp at hc
    subst hc
    exact hb
  · simp [hi] at hc
    rw [hk c hi]
    refine hx c o2 ?_
    rw [e, hp']
    simp [uni, hi, hc]
/-- The heap is what counts. -/
theorem sat_heap {w w' : World} {p : Asrt} (h : sat w p) (hh : ∀ (b : Nat) (o : Obj), w.heap[b]? = some o → w'.heap[b]? = some o) : sat w' p := by
  obtain ⟨x, hx, hp⟩ := h
  exact ⟨x, fun b o hb => hh b o (hx b o hb), hp⟩
theorem sat_drew {w : World} {p : Asrt} : sat w.drew p ↔ sat w p := Iff.rfl
theorem sat_drewN {w : World} {p : Asrt} {n : Nat} : sat (w.drewN n) p ↔ sat w p := Iff.rfl
theorem setCell_same {w : World} {b i : Nat} {c : Array Value} {t : TypeId} {f : Nat × Nat} {v : Value} (h : w.heap[b]? = some (.cells c t f)) :
    (w.setCell ⟨b, i, none⟩ v).heap[b]? = some (.cells (c.setIfInBounds i v) t f) := by
  simp [World.setCell, Array.getElem?_modify, h]
theorem setCell_other {w : World} {a : Addr} {v : Value} {k : Nat} (h : k ≠ a.block) : (w.setCell a v).heap[k]? = w.heap[k]? := Below.heap_setCell _ _ _ _ h
theorem sat_setCell {w : World} {b i : Nat} {c : Array Value} {t : TypeId} {f : Nat × Nat} {v : Value} {p : Asrt} (h : sat w (pts b (.cells c t f) * p)) :
    sat (w.setCell ⟨b, i, none⟩ v) (pts b (.cells (c.setIfInBounds i v) t f) * p) :=
  sat_upd h (setCell_same (sat_get h)) fun _ hc => setCell_other hc
theorem cell_of {w : World} {b i : Nat} {c : Array Value} {t : TypeId} {f : Nat × Nat} (h : w.heap[b]? = some (.cells c t f)) : w.cell? ⟨b, i, none⟩ = c[i]? := by
  simp [World.cell?, h]
theorem frozen_of {w : World} {b i : Nat} {c : Array Value} {t : TypeId} (h : w.heap[b]? = some (.cells c t (0, 0))) : w.frozen? ⟨b, i, none⟩ = false := by
  simp [World.frozen?, h]

/-! ### What else stays: the streams -/
structure Ext (w w' : World) : Prop where
  os : w'.os = w.os
  tape : w'.tape = w.tape
  output : w'.output = w.output
  size : w.heap.size ≤ w'.heap.size
theorem Ext.refl (w : World) : Ext w w := ⟨rfl, rfl, rfl, Nat.le_refl _⟩
theorem Ext.trans {a b c : World} (h : Ext a b) (k : Ext b c) : Ext a c :=
  ⟨k.os.trans h.os, k.tape.trans h.tape, k.output.trans h.output, Nat.le_trans h.size k.size⟩
theorem Ext.alloc {a w : World} (h : Ext a w) (o : Obj) : Ext a (w.alloc o) := h.trans ⟨rfl, rfl, rfl, by simp⟩
theorem Ext.setCell {a w : World} (h : Ext a w) (p : Addr) (v : Value) : Ext a (w.setCell p v) := h.trans ⟨rfl, rfl, rfl, by simp [World.setCell]⟩
theorem Ext.drew {a w : World} (h : Ext a w) : Ext a w.drew := h.trans ⟨rfl, rfl, rfl, Nat.le_refl _⟩
theorem Ext.drewN {a w : World} (h : Ext a w) (n : Nat) : Ext a (w.drewN n) := h.trans ⟨rfl, rfl, rfl, Nat.le_refl _⟩
theorem Ext.below {a w w' : World} {B : Nat} (h : Ext a w) (k : Below B w w') : Ext a w' := h.trans ⟨k.os, k.tape, k.output, k.size⟩
theorem Ext.grown {a w w' : World} {r : Option Nat} (h : Ext a w) (k : w.grownBy w' r) : Ext a w' := h.trans ⟨k.os, k.tape, k.output, k.size⟩

/-- All of a world's memory. -/
def whole (w : World) : Asrt := fun h => h = fun i => w.heap[i]?
theorem sat_whole (w : World) : sat w (emp * whole w) := by
  rw [emp_mul]
  exact ⟨fun i => w.heap[i]?, fun _ _ h => h, rfl⟩
theorem below_of_whole {w w' : World} (p : Asrt) (h : sat w' (p * whole w)) (e : Ext w w') : Below w.heap.size w w' := by
  refine ⟨e.os, e.tape, e.output, e.size, fun k hk => ?_⟩
  obtain ⟨x, hx, hp⟩ := sat_drop h
  have hp' : x = fun i => w.heap[i]? := hp
  obtain ⟨o, ho⟩ : ∃ o, w.heap[k]? = some o := ⟨_, Array.getElem?_eq_getElem hk⟩
  rw [ho]
  exact hx k o (by rw [hp']; exact ho)

/-! ### Contracts -/
/-- A call that asks for `pre`, returns with `post`, and leaves all else as it is. -/
def Fn (P : Program) (f : FuncId) (args : Array Value) (pre : Asrt) (post : Value → Asrt) : Prop :=
  ∀ (w : World) (F : Asrt), sat w (pre * F) → Calls P f args w fun e w' => ∃ v, e = .returned v ∧ sat w' (post v * F) ∧ Ext w w'
/-- .. that reads beside: `ro` holds of whatever world the rest holds in. -/
def FnR (P : Program) (f : FuncId) (args : Array Value) (ro : World → Prop) (pre : Asrt) (post : Value → Asrt) : Prop :=
  ∀ (w : World) (F : Asrt), sat w (pre * F) → (∀ w', sat w' F → ro w') → Calls P f args w fun e w' => ∃ v, e = .returned v ∧ sat w' (post v * F) ∧ Ext w w'

#print axioms below_of_whole
#print axioms sat_upd
end Go.Sk
