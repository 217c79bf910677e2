/- Own ground: steps over what is asked of a body, with parts of memory. -/
import Derived.Test.YtnkdccidhjifmaaGreatVf
set_option linter.unusedVariables false
namespace Go.Sk
open Go.RowKit

structure S (w0 w : World) (A : Asrt) : Prop where
  sat : sat w A
  ext : Ext w0 w
theorem S.imp {w0 w : World} {A B : Asrt} (h : S w0 w A) (k : ∀ x, A x → B x) : S w0 w B := ⟨sat_imp h.1 k, h.2⟩
theorem S.eq {w0 w : World} {A B : Asrt} (h : S w0 w A) (k : A = B) : S w0 w B := k ▸ h
theorem S.drop {w0 w : World} {A B : Asrt} (h : S w0 w (A * B)) : S w0 w B := ⟨sat_drop h.1, h.2⟩
theorem S.left {w0 w : World} {A B : Asrt} (h : S w0 w (A * B)) : S w0 w A := ⟨sat_left h.1, h.2⟩
theorem S.of_whole (w : World) : S w w (whole w) := ⟨by have := sat_whole w; rwa [emp_mul] at this, .refl w⟩
theorem S.below {w w' : World} {A : Asrt} (h : S w w' (A * whole w)) : Below w.heap.size w w' := below_of_whole A h.1 h.2
theorem S.below' {w w' : World} (h : S w w' (whole w)) : Below w.heap.size w w' := below_of_whole emp (by rw [emp_mul]; exact h.1) h.2
theorem S.pur {w0 w : World} {φ : Prop} {A : Asrt} : S w0 w (pur φ * A) ↔ φ ∧ S w0 w A :=
  ⟨fun h => ⟨(sat_pur.1 h.1).1, (sat_pur.1 h.1).2, h.2⟩, fun h => ⟨sat_pur.2 ⟨h.1, h.2.1⟩, h.2.2⟩⟩
theorem S.exm {α : Sort _} {w0 w : World} {f : α → Asrt} {A : Asrt} : S w0 w (ex f * A) ↔ ∃ x, S w0 w (f x * A) :=
  ⟨fun h => by obtain ⟨x, hx⟩ := sat_exm.1 h.1; exact ⟨x, hx, h.2⟩, fun ⟨x, h⟩ => ⟨sat_exm.2 ⟨x, h.1⟩, h.2⟩⟩

/-- Where a block stands in an assertion. -/
class At (A : Asrt) (b : Nat) (o : outParam Obj) (f : outParam (Obj → Asrt)) : Prop where
  eq : A = f o
  sp : ∃ B, ∀ x, f x = pts b x * B
instance atHere {b : Nat} {o : Obj} {A : Asrt} : At (pts b o * A) b o (fun x => pts b x * A) := ⟨rfl, A, fun _ => rfl⟩
instance atNext {C A : Asrt} {b : Nat} {o : Obj} {f : Obj → Asrt} [h : At A b o f] : At (C * A) b o (fun x => C * f x) :=
  ⟨by rw [← h.eq], by obtain ⟨B, hB⟩ := h.sp; exact ⟨C * B, fun x => by rw [hB, mulL]⟩⟩
instance atLast {b : Nat} {o : Obj} : At (pts b o) b o (fun x => pts b x) := ⟨rfl, emp, fun _ => (mul_emp _).symm⟩
/-- An address as a block and a place. -/
class AdN (ad : Addr) (b i : outParam Nat) : Prop where
  eq : ad = ⟨b, i, none⟩
instance adHere {b i : Nat} : AdN ⟨b, i, none⟩ b i := ⟨rfl⟩
instance adAdd {ad : Addr} {b i k : Nat} [h : AdN ad b i] : AdN (ad.add k) b (i + k) := ⟨by rw [h.eq]; unfold Addr.add; split <;> simp_all⟩

theorem ld {w0 w : World} {A : Asrt} {ad : Addr} {b i : Nat} {c : Array Value} {t : TypeId} {φ : Nat × Nat} {f : Obj → Asrt} {v : Value}
    (h : S w0 w A) [ha : AdN ad b i] [hA : At A b (.cells c t φ) f] (hv : c[i]? = some v) : w.cell? ad = some v := by
  obtain ⟨B, hB⟩ := hA.sp
  have h1 := h.sat
  rw [hA.eq, hB] at h1
  rw [ha.eq, cell_of (sat_get h1), hv]
theorem st {w0 w : World} {A : Asrt} {ad : Addr} {b i : Nat} {c : Array Value} {t : TypeId} {f : Obj → Asrt} {v : Value} {K : World → Prop}
    (h : S w0 w A) [ha : AdN ad b i] [hA : At A b (.cells c t (0, 0)) f] (hi : Nat.blt i c.size = true)
    (k : ∀ w', S w0 w' (f (.cells (c.setIfInBounds i v) t (0, 0))) → K w') : stc w ad v K := by
  obtain ⟨B, hB⟩ := hA.sp
  have h1 := h.sat
  rw [hA.eq, hB] at h1
  have hi : i < c.size := by simpa [Nat.blt_eq] using hi
  rw [ha.eq]
  refine ⟨⟨_, by rw [cell_of (sat_get h1)]; exact Array.getElem?_eq_getElem hi⟩, frozen_of (sat_get h1), fun w' hw => ?_⟩
  subst hw
  refine k _ ⟨?_, h.ext.setCell _ _⟩
  rw [hB]
  exact sat_setCell h1
theorem al {w0 w : World} {A : Asrt} {o : Obj} {K : Nat → World → Prop} (h : S w0 w A)
    (k : ∀ b w', S w0 w' (pts b o * A) → K b w') : ∀ (b : Nat) (w' : World), b = w.heap.size → w' = w.alloc o → K b w' := by
  rintro b w' rfl rfl
  exact k _ _ ⟨sat_alloc o h.1, h.2.alloc o⟩
theorem dr {w0 w : World} {A : Asrt} {K : World → Prop} (h : S w0 w A) (k : ∀ w', S w0 w' A → K w') : ∀ w' : World, w' = w.drew → K w' := by
  rintro w' rfl
  exact k _ ⟨sat_drew.2 h.1, h.2.drew⟩
def putC (c : Array Value) : Nat → List Value → Array Value
  | _, [] => c
  | i, v :: vs => putC (c.setIfInBounds i v) (i + 1) vs
theorem putC_size : ∀ (vs : List Value) (c : Array Value) (i : Nat), (putC c i vs).size = c.size
  | [], _, _ => rfl
  | v :: vs, c, i => by rw [putC, putC_size vs]; simp
theorem putList_sat {b i0 : Nat} {t : TypeId} {B : Asrt} : ∀ (vs : List Value) (w : World) (c : Array Value) (i : Nat), sat w (pts b (.cells c t (0, 0)) * B) →
    sat (putList w ⟨b, i0, none⟩ i vs) (pts b (.cells (putC c (i0 + i) vs) t (0, 0)) * B)
  | [], _, _, _, h => h
  | v :: vs, w, c, i, h => by
    unfold putList putC
    have e : (⟨b, i0, none⟩ : Addr).add i = ⟨b, i0 + i, none⟩ := by unfold Addr.add; split <;> simp_all
    rw [e]
    exact putList_sat vs _ _ (i + 1) (sat_setCell h)
theorem putList_ext {w0 : World} {ad : Addr} : ∀ (vs : List Value) (w : World) (i : Nat), Ext w0 w → Ext w0 (putList w ad i vs)
  | [], _, _, h => h
  | v :: vs, w, i, h => putList_ext vs _ (i + 1) (h.setCell _ _)
theorem okCells_mk : ∀ (l : List Value) (p : Prop), okCells l True → p → okCells l p
  | [], p, _, hp => hp
  | v :: vs, p, h, hp => by
    cases v <;> first | exact h.elim | exact okCells_mk vs p h hp
/-- A struct is stored whole. -/
theorem sw {w0 w : World} {A : Asrt} {ad : Addr} {b i n : Nat} {c : Array Value} {t : TypeId} {f : Obj → Asrt} {cs : List Value} {K : World → Prop}
    (h : S w0 w A) [ha : AdN ad b i] [hA : At A b (.cells c t (0, 0)) f] (hn : cs.length = n) (hi : Nat.ble (i + n) c.size = true) (hok : okCells cs True)
    (k : ∀ w', S w0 w' (f (.cells (putC c i cs) t (0, 0))) → K w') : sts w ad n cs K := by
  obtain ⟨B, hB⟩ := hA.sp
  have h1 := h.sat
  rw [hA.eq, hB] at h1
  have hi : i + n ≤ c.size := Nat.le_of_ble_eq_true hi
  refine ⟨hn, okCells_mk _ _ hok ⟨?_, fun w' hw => ?_⟩⟩
  · intro j hj
    have e : ad.add j = ⟨b, i + j, none⟩ := by rw [ha.eq]; unfold Addr.add; split <;> simp_all
    rw [e]
    exact ⟨⟨_, by rw [cell_of (sat_get h1)]; exact Array.getElem?_eq_getElem (by omega)⟩, frozen_of (sat_get h1)⟩
  · subst hw
    refine k _ ⟨?_, putList_ext _ _ _ h.ext⟩
    rw [hB, ha.eq]
    exact putList_sat cs w c 0 h1
theorem putC_all : ∀ (vs pre rest : List Value) (c : Array Value), c.toList = pre ++ rest → rest.length = vs.length → (putC c pre.length vs).toList = pre ++ vs
  | [], pre, rest, c, h, hl => by
    have : rest = [] := List.length_eq_zero_iff.1 hl
    subst this
    exact h
  | v :: vs, pre, rest, c, h, hl => by
    cases rest with
    | nil => simp at hl
    | cons r rest =>
      unfold putC
      have h2 : (c.setIfInBounds pre.length v).toList = (pre ++ [v]) ++ rest := by
        rw [Array.toList_setIfInBounds, h]
        simp
      have := putC_all vs (pre ++ [v]) rest (c.setIfInBounds pre.length v) h2 (by simpa using hl)
      simpa using this
/-- .. into a block of its own size. -/
theorem sww {w0 w : World} {A : Asrt} {ad : Addr} {b n : Nat} {c : Array Value} {t : TypeId} {f : Obj → Asrt} {cs : List Value} {K : World → Prop}
    (h : S w0 w A) [ha : AdN ad b 0] [hA : At A b (.cells c t (0, 0)) f] (hn : cs.length = n) (hi : Nat.beq c.size n = true) (hok : okCells cs True)
    (k : ∀ w', S w0 w' (f (.cells cs.toArray t (0, 0))) → K w') : sts w ad n cs K := by
  have hi : c.size = n := Nat.eq_of_beq_eq_true hi
  refine sw h (ha := ha) (hA := hA) hn (by rw [Nat.zero_add, hi]; exact Nat.ble_self_eq_true n) hok fun w' hw => ?_
  have e : putC c 0 cs = cs.toArray := by
    apply Array.toList_inj.1
    have := putC_all cs [] c.toList c rfl (by rw [hn, ← hi]; simp)
    simpa using this
  rw [e] at hw
  exact k w' hw
theorem jAnd {c d : Bool} {w : World} {K : Bool → World → Prop} (h : K (c && d) w) : ∃ J : Bool → World → Prop, (if c = true then J d w else J false w) ∧ ∀ (_ : Env) (y : Bool) (w' : World), J y w' → K y w' :=
  ⟨fun y w' => y = (c && d) ∧ w' = w, by cases c <;> exact ⟨by simp, rfl⟩, by rintro _ y w' ⟨rfl, rfl⟩; exact h⟩
theorem jOr {c d : Bool} {w : World} {K : Bool → World → Prop} (h : K (c || d) w) : ∃ J : Bool → World → Prop, (if c = false then J d w else J true w) ∧ ∀ (_ : Env) (y : Bool) (w' : World), J y w' → K y w' :=
  ⟨fun y w' => y = (c || d) ∧ w' = w, by cases c <;> exact ⟨by simp, rfl⟩, by rintro _ y w' ⟨rfl, rfl⟩; exact h⟩
theorem jCase {c d : Bool} {w : World} {K : Bool → World → Prop} (h : K (c || d) w) : ∃ J : Bool → World → Prop, (if c = true then J c w else J d w) ∧ ∀ (_ : Env) (y : Bool) (w' : World), J y w' → K y w' :=
  ⟨fun y w' => y = (c || d) ∧ w' = w, by cases c <;> exact ⟨by simp, rfl⟩, by rintro _ y w' ⟨rfl, rfl⟩; exact h⟩
theorem jOA {c d e : Bool} {w : World} {K : Bool → World → Prop} (h : K ((c || d) && e) w) : ∃ J : Bool → World → Prop, (if c = false then (if d = true then J e w else J false w) else J e w) ∧ ∀ (_ : Env) (y : Bool) (w' : World), J y w' → K y w' :=
  ⟨fun y w' => y = ((c || d) && e) ∧ w' = w, by cases c <;> cases d <;> exact ⟨by simp, rfl⟩, by rintro _ y w' ⟨rfl, rfl⟩; exact h⟩
theorem nc_mk {ad : Addr} {K : Addr → Prop} (h : K ad) : nc (some ad) K := h
theorem ix_mk {ad : Addr} {n : Int} {l : Nat} {K : Addr → Prop} (h0 : 0 ≤ n) (h1 : n < l) (h : K ad) : ixAt (some ad) n l K := ⟨⟨h0, h1⟩, h⟩
theorem nq_nil {K : Bool → Prop} (h : K true) : nilQ .nilIface K := h
theorem nq_if {t : TypeId} {v : Value} {K : Bool → Prop} (h : K false) : nilQ (.iface t v) K := h
theorem ift {c : Prop} [Decidable c] {A B : Prop} (hc : c) (h : A) : if c then A else B := by rw [if_pos hc]; exact h
theorem iff_ {c : Prop} [Decidable c] {A B : Prop} (hc : ¬c) (h : B) : if c then A else B := by rw [if_neg hc]; exact h
theorem dt {c : Prop} [Decidable c] {A B : Prop} (hc : c) (h : A) : if decide c = true then A else B := by rw [if_pos (by simpa using hc)]; exact h
theorem df {c : Prop} [Decidable c] {A B : Prop} (hc : ¬c) (h : B) : if decide c = true then A else B := by rw [if_neg (by simpa using hc)]; exact h
theorem dc {c : Prop} [Decidable c] {A B : Prop} (h : c → A) (k : ¬c → B) : if decide c = true then A else B := by
  by_cases hc : c
  · exact dt hc (h hc)
  · exact df hc (k hc)
theorem b_t {b : Bool} {A B : Prop} (hc : b = true) (h : A) : if b = true then A else B := by rw [if_pos hc]; exact h
theorem b_f {b : Bool} {A B : Prop} (hc : b = false) (h : B) : if b = true then A else B := by rw [if_neg (by simp [hc])]; exact h
end Go.Sk
