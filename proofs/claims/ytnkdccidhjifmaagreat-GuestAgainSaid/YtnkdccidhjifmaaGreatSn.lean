/- Contracts (seat Z): the sorted numbers of a memory's pages. -/
import Derived.Test.YtnkdccidhjifmaaGreatSk
import Derived.Test.YtnkdccidhjifmaaGreatCv
import Derived.Test.YtnkdccidhjifmaaGreatOkSo
set_option linter.unusedVariables false
set_option linter.unusedSimpArgs false
namespace Go.Sk
open Go.RowKit Go.Proofs Go.Maps
variable {w0 w : World} {F G : Asrt} {R : Ending → World → Prop}

/-- A place of an owned slice is written. -/
theorem sl_st {e : TypeId} {l : List Value} {ad : Addr} {n c i : Nat} {v : Value} {K : World → Prop} (h : S w0 w (slA e l (some ad) n c * G)) (hi : i < l.length)
    (k : ∀ w', S w0 w' (slA e (l.set i v) (some ad) n c * G) → K w') : stc w (ad.add (i * 1)) v K := by
  rcases slA_cases h.sat with ⟨h0, _⟩ | ⟨g, rest, ha, rfl, hc, hm, h2⟩
  · cases h0
  · cases ha
    have h3 : S w0 w (pts g (.cells (l ++ rest).toArray e (0, 0)) * G) := ⟨h2, h.ext⟩
    rw [Addr.add_lit]
    refine st h3 (by simp [Nat.blt_eq]; omega) fun w' h' => k w' ?_
    have e1 : (l ++ rest).toArray.setIfInBounds (0 + i * 1) v = (l.set i v ++ rest).toArray := by
      apply Array.toList_inj.1
      simp [List.set_append, hi]
    rw [e1] at h'
    have := slA_mk (e := e) (l := l.set i v) (rest := rest) (g := g) (c := c) (by simpa using hc) hm h'.sat
    rw [List.length_set] at this
    exact ⟨this, h'.ext⟩
def u64s (l : List Int) : List Value := l.map (Value.int .u64)
theorem u64s_length (l : List Int) : (u64s l).length = l.length := by simp [u64s]
theorem u64s_set (l : List Int) (i : Nat) (x : Int) : u64s (l.set i x) = (u64s l).set i (.int .u64 x) := by simp [u64s, List.map_set]
theorem u64s_get {l : List Int} {i : Nat} (h : i < l.length) : (u64s l)[i]? = some (.int .u64 (l.getD i 0)) := by simp [u64s, h, List.getD_eq_getElem?_getD]
/-- Rising, but for what stands at j. -/
def risen (l : List Int) (i j : Nat) : Prop := ∀ p q : Nat, p < q → q ≤ i → q ≠ j → l.getD p 0 ≤ l.getD q 0
theorem getD_set (l : List Int) (i j : Nat) (x : Int) (hi : i < l.length) : (l.set i x).getD j 0 = if j = i then x else l.getD j 0 := by
  simp only [List.getD_eq_getElem?_getD, List.getElem?_set]
  by_cases h : i = j
  · subst h; simp [hi]
  · simp [h, Ne.symm h]
theorem perm_swap2 (l : List Int) {i : Nat} (h0 : 0 < i) (h1 : i < l.length) : ((l.set i (l.getD (i - 1) 0)).set (i - 1) (l.getD i 0)).Perm l := by
  have h2 : i - 1 < l.length := by omega
  have := List.set_set_perm h1 h2
  have e1 : l.getD (i - 1) 0 = l[i - 1] := by simp [List.getD_eq_getElem?_getD, h2]
  have e2 : l.getD i 0 = l[i] := by simp [List.getD_eq_getElem?_getD, h1]
  rw [e1, e2]
  exact this
theorem c_isort {l : List Int} {a : Option Addr} {n c : Nat} (hl : l.length ≤ 1000) (h : S w0 w (slA 22 (u64s l) a n c * F))
    (k : ∀ l' w', l'.Perm l → l'.Pairwise (· ≤ ·) → S w0 w' (slA 22 (u64s l') a n c * F) → R (.returned (.tuple #[])) w') :
    Calls Tryz.prog 110 #[.slice a n c, .int .i64 0, .int .i64 (l.length : Int)] w R := by
  obtain rfl : n = l.length := by have := slA_len h; simpa [u64s_length] using this
  refine ok_slices_insertionSortOrdered _ _ _ _ _ ?_
  refine ⟨fun y w' => ∃ (i : Nat) (l' : List Int), y = (i : Int) + 1 ∧ (i + 1 ≤ l.length ∨ i = 0) ∧ l'.Perm l ∧ (∀ p q : Nat, p < q → q ≤ i → q < l.length → l'.getD p 0 ≤ l'.getD q 0) ∧ S w0 w' (slA 22 (u64s l') a l.length c * F), fun y _ => (l.length - y).toNat,
    ⟨0, l, by rw [wi64 (by omega) (by omega)]; omega, .inr rfl, .refl _, fun p q h1 h2 _ => by omega, h⟩, ?_⟩
  rintro _ y w1 ⟨i, l1, rfl, hi, hp1, hr1, h1⟩
  have hlen1 := hp1.length_eq
  refine dc (fun hlt => ?_) (fun hlt => ?_)
  · have hi1 : i + 1 < l.length := by omega
    refine ⟨fun y w' => ∃ (j : Nat) (l' : List Int), y = j ∧ j ≤ i + 1 ∧ l'.Perm l ∧ risen l' (i + 1) j ∧ S w0 w' (slA 22 (u64s l') a l.length c * F), fun y _ => y.toNat, ⟨i + 1, l1, by omega, by omega, hp1, ?_, h1⟩, ?_⟩
    · intro p q h2 h3 h4
      exact hr1 p q h2 (by omega) (by omega)
    rintro _ y w2 ⟨j, l2, rfl, hj, hp2, hr2, h2⟩
    have hlen2 := hp2.length_eq
    refine ⟨fun y w' => y = decide (0 < j ∧ l2.getD j 0 < l2.getD (j - 1) 0) ∧ S w0 w' (slA 22 (u64s l2) a l.length c * F), ?_, ?_⟩
    · refine dr h2 fun w3 h3 => ?_
      refine dc (fun hj0 => ?_) (fun hj0 => ?_)
      · obtain ⟨ad, rfl, hc1⟩ := slA_rd h3 (i := j) (by rw [u64s_length]; omega)
        obtain ⟨ad', e, hc2⟩ := slA_rd h3 (i := j - 1) (by rw [u64s_length]; omega)
        cases e
        rw [u64s_get (by omega)] at hc1 hc2
        rw [wi64 (x := (j : Int) - 1) (by omega) (by omega)]
        have e1 : ((j : Int) - 1).toNat = j - 1 := by omega
        refine ix_mk (by omega) (by omega) ⟨_, by rw [Int.toNat_natCast, Nat.mul_one, hc1], ix_mk (by omega) (by omega) ⟨_, by rw [e1, Nat.mul_one, hc2], c_Less ⟨_, rfl, ?_, h3⟩⟩⟩
        have : 0 < j := by omega
        simp [this]
      · exact ⟨by simp; omega, h3⟩
    rintro _ y w3 ⟨rfl, h3⟩
    by_cases hc : 0 < j ∧ l2.getD j 0 < l2.getD (j - 1) 0
    · refine dt hc (dr h3 fun w4 h4 => ?_)
      obtain ⟨ad, rfl, hc1⟩ := slA_rd h4 (i := j) (by rw [u64s_length]; omega)
      obtain ⟨ad', e, hc2⟩ := slA_rd h4 (i := j - 1) (by rw [u64s_length]; omega)
      cases e
      rw [u64s_get (by omega)] at hc1 hc2
      rw [wi64 (x := (j : Int) - 1) (by omega) (by omega)]
      have e1 : ((j : Int) - 1).toNat = j - 1 := by omega
      refine ix_mk (by omega) (by omega) ⟨_, by rw [e1, Nat.mul_one, hc2], ix_mk (by omega) (by omega) ⟨_, by rw [Int.toNat_natCast, Nat.mul_one, hc1], ix_mk (by omega) (by omega) ?_⟩⟩
      rw [Int.toNat_natCast]
      refine sl_st h4 (by rw [u64s_length]; omega) fun w5 h5 => ⟨rfl, ix_mk (by omega) (by omega) ?_⟩
      rw [e1]
      rw [← u64s_set] at h5
      refine sl_st h5 (by rw [u64s_length, List.length_set]; omega) fun w6 h6 => ?_
      rw [← u64s_set] at h6
      refine ⟨⟨j - 1, _, by omega, by omega, (perm_swap2 l2 hc.1 (by omega)).trans hp2, ?_, h6⟩, by simp only []; omega⟩
      intro p q hpq hqi hqj
      have hL1 : j < l2.length := by omega
      have hL2 : j - 1 < (l2.set j (l2.getD (j - 1) 0)).length := by rw [List.length_set]; omega
      rw [getD_set _ _ _ _ hL2, getD_set _ _ _ _ hL2, if_neg hqj, getD_set _ _ _ _ hL1, getD_set _ _ _ _ hL1]
      by_cases hq : q = j
      · subst hq
        rw [if_pos rfl]
        by_cases hp : p = q - 1
        · rw [if_pos hp]; omega
        · rw [if_neg hp, if_neg (by omega)]
          exact hr2 p (q - 1) (by omega) (by omega) (by omega)
      · rw [if_neg hq]
        by_cases hp : p = j - 1
        · rw [if_pos hp]
          exact hr2 j q (by omega) hqi hq
        · rw [if_neg hp]
          by_cases hp2 : p = j
          · rw [if_pos hp2]
            exact hr2 (j - 1) q (by omega) hqi hq
          · rw [if_neg hp2]
            exact hr2 p q hpq hqi hq
    · refine df hc ⟨⟨i + 1, l2, by rw [wi64 (by omega) (by omega)]; omega, .inl (by omega), hp2, ?_, h3⟩, ?_⟩
      · intro p q hpq hqi hql
        by_cases hq : q = j
        · subst hq
          have h4 : l2.getD (q - 1) 0 ≤ l2.getD q 0 := by
            have : 0 < q := by omega
            simp only [this, true_and] at hc
            omega
          by_cases hp : p = q - 1
          · rw [hp]; exact h4
          · exact Int.le_trans (hr2 p (q - 1) (by omega) (by omega) (by omega)) h4
        · exact hr2 p q hpq (by omega) hq
      · simp only []; rw [wi64 (by omega) (by omega)]; omega
  · refine k l1 w1 hp1 ?_ h1
    rw [List.pairwise_iff_getElem]
    intro p q hp hq hpq
    have := hr1 p q hpq (by omega) (by omega)
    simpa [List.getD_eq_getElem?_getD, hp, hq] using this
theorem run_index {s : ByteArray} {x : Int} (h0 : 0 ≤ x) (h1 : x.toNat < s.size) (w : World) : ∃ b : Int, (Instr.index 9 (.string s) (.int .u8 x)).run Tryz.prog w = .ok (.int .u8 b) w := by
  have u9 : Tryz.prog.underlying 9 = some .string := by kernel_rfl
  have hs : s[x.toNat]? = some s[x.toNat] := getElem?_pos s x.toNat h1
  exact ⟨_, by simp [Instr.index, asIntOf, run_underlying u9, Result.andThen, h0, hs]; rfl⟩
theorem c_Len64 {x : Int} (h0 : 0 ≤ x) (h1 : x < 256) (k : ∀ y, R (.returned (.int .i64 y)) w) : Calls Tryz.prog 119 #[.int .u64 x] w R := by
  refine ok_math_bits_Len64 _ ?_
  refine ⟨fun y z w' => y = x ∧ w' = w, df (by omega) ⟨rfl, rfl⟩, ?_⟩
  rintro _ y z w1 ⟨rfl, rfl⟩
  refine ⟨fun u z w' => u = y ∧ w' = w1, df (by omega) ⟨rfl, rfl⟩, ?_⟩
  rintro _ u z w2 ⟨rfl, rfl⟩
  refine ⟨fun v z w' => v = u ∧ w' = w2, df (by omega) ⟨rfl, rfl⟩, ?_⟩
  rintro _ v z w3 ⟨rfl, rfl⟩
  have e : IntKind.u8.wrap v = v := by
    have : IntKind.u8.signed = false := rfl
    simp [IntKind.wrap, IntKind.bits, this]
    omega
  rw [e]
  obtain ⟨b, hb⟩ := run_index (s := _) h0 (show v.toNat < _ from Nat.lt_of_lt_of_eq (show v.toNat < 256 by omega) (by kernel_rfl)) w3
  exact ⟨b, w3, hb, k _⟩
theorem c_Len {x : Int} (h0 : 0 ≤ x) (h1 : x < 256) (k : ∀ y, R (.returned (.int .i64 y)) w) : Calls Tryz.prog 82 #[.int .u64 x] w R :=
  ok_math_bits_Len _ (c_Len64 h0 h1 fun y => ⟨_, rfl, k y⟩)
theorem c_Sort {l : List Int} {a : Option Addr} {n c : Nat} (hl : l.length ≤ 12) (h : S w0 w (slA 22 (u64s l) a n c * F))
    (k : ∀ l' w', l'.Perm l → l'.Pairwise (· ≤ ·) → S w0 w' (slA 22 (u64s l') a n c * F) → R (.returned (.tuple #[])) w') : Calls Tryz.prog 46 #[.slice a n c] w R := by
  obtain rfl : n = l.length := by have := slA_len h; simpa [u64s_length] using this
  refine ok_slices_Sort _ _ _ ?_
  rw [w64_of (by omega) (by omega)]
  refine c_Len (by omega) (by omega) fun y => ⟨_, rfl, ?_⟩
  refine ok_slices_pdqsortOrdered _ _ _ _ _ _ ?_
  refine ⟨fun y1 y2 _ _ _ w' => y1 = 0 ∧ y2 = l.length ∧ w' = w, fun _ _ _ _ _ _ => 0, ⟨rfl, rfl, rfl⟩, ?_⟩
  rintro _ y1 y2 y3 y4 y5 w1 ⟨rfl, rfl, rfl⟩
  rw [wi64 (x := (l.length : Int) - 0) (by omega) (by omega)]
  refine dt (by omega) ?_
  exact c_isort (by omega) h fun l' w' hp hs h' => ⟨rfl, rfl, k l' w' hp hs h'⟩
end Go.Sk
