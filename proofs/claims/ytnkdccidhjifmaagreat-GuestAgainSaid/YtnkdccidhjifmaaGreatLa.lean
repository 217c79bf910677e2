/- Two memories, the program's and the reference's, of one layout (seat Z). -/
import Derived.Test.YtnkdccidhjifmaaGreatDf
import Derived.Test.YtnkdccidhjifmaaGreatRc
set_option linter.unusedVariables false
set_option linter.unusedSimpArgs false
namespace Go.Sk
open Go.RowKit Go.Proofs
variable {w0 w : World} {F G : Asrt} {R : Ending → World → Prop}
abbrev Lay := List (Int × Int)
def layOk (L : Lay) (p x : Int) : Bool := match L.lookup (x % 18446744073709551616 / 4096) with | some pm => bAnd .i64 pm p == p | none => false
def over (f : Int → Int) (addr : Int) (l : List Int) (y : Int) : Int := if (y - addr) % 18446744073709551616 < l.length then l.getD ((y - addr) % 18446744073709551616).toNat 0 else f y
def Shape (L : Lay) (ps : List Pg) : Prop := ps.map (fun p => (p.num, p.perm, p.dat)) = L.map fun x => (x.1, x.2, none)
def RShape (z : List Int) (L : Lay) (qs : List RPg) : Prop := qs.map (fun p => (p.addr, p.perm, p.data)) = L.map fun x => (x.1 * 4096, x.2, z)
theorem Shape.find : ∀ {L : Lay} {ps : List Pg}, Shape L ps → ∀ n, (pgFind ps n).map (fun p => (p.perm, p.dat)) = (L.lookup n).map fun pm => (pm, none)
  | [], ps, h, n => by
    have : ps = [] := by simpa [Shape] using h
    subst this
    rfl
  | (a, pm) :: L, [], h, n => by simp [Shape] at h
  | (a, pm) :: L, p :: ps, h, n => by
    unfold Shape at h
    rw [List.map_cons, List.map_cons] at h
    injection h with h1 h2
    have ih := Shape.find (L := L) (ps := ps) h2 n
    obtain ⟨num, blk, perm, dat⟩ := p
    simp only [Prod.mk.injEq] at h1
    obtain ⟨rfl, rfl, rfl⟩ := h1
    unfold pgFind
    by_cases c : num = n
    · subst c
      simp [List.lookup]
    · have : (n == num) = false := by simp [Ne.symm c]
      simp only [c, if_false, List.lookup, this]
      exact ih
theorem Shape.ok {L : Lay} {ps : List Pg} (h : Shape L ps) (p x : Int) : (mv ps).ok p x = layOk L p x := by
  have := h.find (pg x)
  unfold mv layOk
  simp only [pg] at this ⊢
  cases h1 : pgFind ps (x % 18446744073709551616 / 4096) with
  | none =>
    rw [h1] at this
    cases h2 : L.lookup (x % 18446744073709551616 / 4096) with
    | none => rfl
    | some y => rw [h2] at this; cases this
  | some g =>
    rw [h1] at this
    cases h2 : L.lookup (x % 18446744073709551616 / 4096) with
    | none => rw [h2] at this; cases this
    | some y =>
      rw [h2] at this
      simp only [Option.map_some, Option.some.injEq, Prod.mk.injEq] at this
      simp only [this.1]
theorem Shape.byte {L : Lay} {ps : List Pg} (h : Shape L ps) (x : Int) : (mv ps).byte x = 0 := by
  have := h.find (pg x)
  show mByte ps x = 0
  unfold mByte
  cases h1 : pgFind ps (pg x) with
  | none => rfl
  | some g =>
    rw [h1] at this
    cases h2 : L.lookup (pg x) with
    | none => rw [h2] at this; cases this
    | some y =>
      rw [h2] at this
      simp only [Option.map_some, Option.some.injEq, Prod.mk.injEq] at this
      unfold Pg.byte
      simp only [this.2]
theorem Shape.wfs {L : Lay} {ps : List Pg} (h : Shape L ps) : wfs ps := by
  intro p hp
  have : (p.num, p.perm, p.dat) ∈ ps.map (fun p => (p.num, p.perm, p.dat)) := List.mem_map_of_mem hp
  rw [h] at this
  obtain ⟨x, _, e⟩ := List.mem_map.1 this
  simp only [Prod.mk.injEq] at e
  unfold Pg.wf
  rw [← e.2.2]
  trivial
theorem Shape.nums {L : Lay} {ps : List Pg} (h : Shape L ps) : ps.map (·.num) = L.map (·.1) := by
  have := congrArg (List.map fun x : Int × Int × Option (Nat × List Int) => x.1) h
  rw [List.map_map, List.map_map] at this
  exact this
theorem Shape.numsOk {L : Lay} {ps : List Pg} (h : Shape L ps) (hd : (L.map (·.1)).Nodup) (hr : ∀ x ∈ L, 0 ≤ x.1 ∧ x.1 < 18446744073709551616) : NumsOk ps := by
  refine ⟨by rw [h.nums]; exact hd, fun p hp => ?_⟩
  have : p.num ∈ L.map (·.1) := by rw [← h.nums]; exact List.mem_map_of_mem hp
  obtain ⟨x, hx, e⟩ := List.mem_map.1 this
  rw [← e]
  exact hr x hx
theorem Shape.snoc {L : Lay} {ps : List Pg} (h : Shape L ps) (n pm : Int) (b : Nat) : Shape (L ++ [(n, pm)]) (ps ++ [⟨n, b, pm, none⟩]) := by
  unfold Shape at h ⊢
  rw [List.map_append, List.map_append, h]
  rfl
theorem RShape.snoc {z : List Int} {L : Lay} {qs : List RPg} (h : RShape z L qs) (n pm : Int) (b : Nat) : RShape z (L ++ [(n, pm)]) (qs ++ [⟨n * 4096, b, pm, z⟩]) := by
  unfold RShape at h ⊢
  rw [List.map_append, List.map_append, h]
  rfl
theorem RShape.look {z : List Int} : ∀ {L : Lay} {qs : List RPg}, RShape z L qs → ∀ x, (rLook qs x).map (fun p => (p.perm, p.data)) = (L.lookup (x / 4096)).map fun pm => (pm, z)
  | [], qs, h, x => by
    have : qs = [] := by simpa [RShape] using h
    subst this
    rfl
  | (a, pm) :: L, [], h, x => by simp [RShape] at h
  | (a, pm) :: L, p :: qs, h, x => by
    unfold RShape at h
    rw [List.map_cons, List.map_cons] at h
    injection h with h1 h2
    have ih := RShape.look (L := L) (qs := qs) h2 x
    obtain ⟨addr, blk, perm, data⟩ := p
    simp only [Prod.mk.injEq] at h1
    obtain ⟨rfl, rfl, rfl⟩ := h1
    unfold rLook
    by_cases c : x / 4096 = a
    · have : rIn ⟨a * 4096, blk, perm, data⟩ x := by unfold rIn; simp only []; omega
      rw [if_pos this]
      simp [List.lookup, c]
    · have h3 : ¬ rIn ⟨a * 4096, blk, perm, data⟩ x := by unfold rIn; simp only []; omega
      have h4 : (x / 4096 == a) = false := by simp [c]
      rw [if_neg h3]
      simp only [List.lookup, h4]
      exact ih
theorem RShape.ok {z : List Int} {L : Lay} {qs : List RPg} (h : RShape z L qs) (p x : Int) : (rmv qs).ok p x = layOk L p x := by
  have := h.look (x % 18446744073709551616)
  unfold rmv layOk
  simp only []
  cases h1 : rLook qs (x % 18446744073709551616) with
  | none =>
    rw [h1] at this
    cases h2 : L.lookup (x % 18446744073709551616 / 4096) with
    | none => rfl
    | some y => rw [h2] at this; cases this
  | some g =>
    rw [h1] at this
    cases h2 : L.lookup (x % 18446744073709551616 / 4096) with
    | none => rw [h2] at this; cases this
    | some y =>
      rw [h2] at this
      simp only [Option.map_some, Option.some.injEq, Prod.mk.injEq] at this
      simp only [this.1]
theorem RShape.byte {z : List Int} {L : Lay} {qs : List RPg} (h : RShape z L qs) (hz : ∀ j, z.getD j 0 = 0) (x : Int) : (rmv qs).byte x = 0 := by
  have := h.look (x % 18446744073709551616)
  unfold rmv
  simp only []
  cases h1 : rLook qs (x % 18446744073709551616) with
  | none => rfl
  | some g =>
    rw [h1] at this
    cases h2 : L.lookup (x % 18446744073709551616 / 4096) with
    | none => rw [h2] at this; cases this
    | some y =>
      rw [h2] at this
      simp only [Option.map_some, Option.some.injEq, Prod.mk.injEq] at this
      simp only [this.2, hz]
theorem RShape.addrs {z : List Int} {L : Lay} {qs : List RPg} (h : RShape z L qs) : qs.map (·.addr) = L.map (·.1 * 4096) := by
  have := congrArg (List.map fun x : Int × Int × List Int => x.1) h
  rw [List.map_map, List.map_map] at this
  exact this
theorem RShape.wfs {z : List Int} {L : Lay} {qs : List RPg} (h : RShape z L qs) (hz : z.length = 4096) (hr : ∀ x ∈ L, 0 ≤ x.1 ∧ x.1 < 34359738368) : rwfs qs := by
  intro p hp
  have : (p.addr, p.perm, p.data) ∈ qs.map (fun p => (p.addr, p.perm, p.data)) := List.mem_map_of_mem hp
  rw [h] at this
  obtain ⟨x, hx, e⟩ := List.mem_map.1 this
  simp only [Prod.mk.injEq] at e
  have := hr x hx
  exact ⟨by rw [← e.2.2]; exact hz, by omega, by omega, by omega⟩
theorem RShape.sorted {z : List Int} {L : Lay} {qs : List RPg} (h : RShape z L qs) (hs : L.Pairwise fun a b => a.1 < b.1) : rSorted qs := by
  have e : rSorted qs ↔ (qs.map (·.addr)).Pairwise fun a b => a + 4096 ≤ b := by unfold rSorted; rw [List.pairwise_map]
  rw [e, h.addrs, List.pairwise_map]
  exact hs.imp fun {a b} hab => by omega
theorem RShape.length {z : List Int} {L : Lay} {qs : List RPg} (h : RShape z L qs) : qs.length = L.length := by have := congrArg List.length h; simpa using this
theorem Shape.length {L : Lay} {ps : List Pg} (h : Shape L ps) : ps.length = L.length := by have := congrArg List.length h; simpa using this
/-! ### Behind a write -/
theorem mByte_mod (ps : List Pg) (y : Int) : mByte ps (y % 18446744073709551616) = mByte ps y := by
  unfold mByte pg
  rw [show y % 18446744073709551616 % 18446744073709551616 = y % 18446744073709551616 by omega, show y % 18446744073709551616 % 4096 = y % 4096 by omega]
theorem Put.mv {ps ps' : List Pg} {addr : Int} {l : List Int} (h : Put ps ps' addr l) : Sk.mv ps' = ⟨(Sk.mv ps).ok, over (Sk.mv ps).byte addr l⟩ := by
  have h1 : (Sk.mv ps').ok = (Sk.mv ps).ok := by
    funext p x
    have := h.perm (pg x)
    unfold Sk.mv
    simp only []
    cases h1 : pgFind ps' (pg x) with
    | none =>
      cases h2 : pgFind ps (pg x) with
      | none => rfl
      | some g => rw [h1, h2] at this; cases this
    | some g' =>
      cases h2 : pgFind ps (pg x) with
      | none => rw [h1, h2] at this; cases this
      | some g =>
        rw [h1, h2] at this
        simp only [Option.map_some, Option.some.injEq] at this
        simp only [this]
  have h2 : (Sk.mv ps').byte = over (Sk.mv ps).byte addr l := by
    funext y
    show mByte ps' y = over (mByte ps) addr l y
    rw [← mByte_mod, h.byte _ (by omega) (by omega)]
    unfold over
    rw [mByte_mod, show (y % 18446744073709551616 - addr) % 18446744073709551616 = (y - addr) % 18446744073709551616 by omega]
  calc Sk.mv ps' = ⟨(Sk.mv ps').ok, (Sk.mv ps').byte⟩ := rfl
    _ = _ := by rw [h1, h2]
theorem RPut.mv {ps ps' : List RPg} {addr : Int} {l : List Int} (h : RPut ps ps' addr l) : rmv ps' = ⟨(rmv ps).ok, over (rmv ps).byte addr l⟩ := by
  have h1 : (rmv ps').ok = (rmv ps).ok := by funext p x; exact h.ok p x
  have h2 : (rmv ps').byte = over (rmv ps).byte addr l := by funext y; exact h.byte y
  calc rmv ps' = ⟨(rmv ps').ok, (rmv ps').byte⟩ := rfl
    _ = _ := by rw [h1, h2]
def isB (l : List Int) : Prop := ∀ x ∈ l, 0 ≤ x ∧ x < 256
theorem isB.take {l : List Int} (h : isB l) (n : Nat) : isB (l.take n) := fun x hx => h x (List.mem_of_mem_take hx)
theorem isB.getD {l : List Int} (h : isB l) (n : Nat) : 0 ≤ l.getD n 0 ∧ l.getD n 0 < 256 := by
  by_cases c : n < l.length
  · exact h _ (getD_mem c)
  · rw [List.getD_eq_getElem?_getD, List.getElem?_eq_none (by omega)]
    simp
theorem over_range {f : Int → Int} {addr : Int} {l : List Int} (hf : ∀ y, 0 ≤ f y ∧ f y < 256) (hl : isB l) (y : Int) : 0 ≤ over f addr l y ∧ over f addr l y < 256 := by
  unfold over
  split
  · exact hl.getD _
  · exact hf y
theorem lay_write {L : Lay} {b : Int → Int} {addr : Int} {l : List Int} {code : Int} (h : ∀ j : Nat, j < l.length → (L.lookup ((addr + j) % 18446744073709551616 / 4096)).isSome = true) : rWrite ⟨layOk L, b⟩ 0 code addr l = none := by
  unfold rWrite
  rw [mBad_all l.length 0 fun j _ hj => ?_]
  show layOk L 0 (addr + j) = true
  have := h j (by omega)
  unfold layOk
  cases h2 : L.lookup ((addr + j) % 18446744073709551616 / 4096) with
  | none => rw [h2] at this; cases this
  | some pm =>
    simp only [beq_iff_eq]
    unfold bAnd
    rw [show BitVec.ofInt IntKind.i64.bits 0 = 0#IntKind.i64.bits from rfl, BitVec.and_zero]
    rfl
theorem Put.num {ps ps' : List Pg} {addr : Int} {l : List Int} (h : Put ps ps' addr l) (hn : NumsOk ps) : NumsOk ps' := by
  have e : ps'.map (·.num) = ps.map (·.num) := by
    have := congrArg (List.map fun x : Int × Value => x.1) h.es
    unfold memEs at this
    rw [List.map_map, List.map_map] at this
    exact this
  refine ⟨by rw [e]; exact hn.nodup, fun p hp => ?_⟩
  have : p.num ∈ ps.map (·.num) := by rw [← e]; exact List.mem_map_of_mem hp
  obtain ⟨x, hx, e2⟩ := List.mem_map.1 this
  rw [← e2]
  exact hn.range x hx
theorem Put.len {ps ps' : List Pg} {addr : Int} {l : List Int} (h : Put ps ps' addr l) : ps'.length = ps.length := by
  have := congrArg List.length h.es
  rwa [memEs_length, memEs_length] at this
def zero4 : List Int := List.replicate 4096 0
theorem zero4_len : zero4.length = 4096 := List.length_replicate
theorem zero4_get (j : Nat) : zero4.getD j 0 = 0 := rep_getD 4096 j
end Go.Sk
