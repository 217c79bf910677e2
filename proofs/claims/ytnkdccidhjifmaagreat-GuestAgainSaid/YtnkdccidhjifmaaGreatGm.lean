/- The statement GuestAgain (seat Z): two memories compared; the laws of a run; the walk. -/
import Derived.Test.YtnkdccidhjifmaaGreatGf
import Derived.Test.YtnkdccidhjifmaaGreatOkDi
import Derived.Test.YtnkdccidhjifmaaGreatEq
import Derived.Test.YtnkdccidhjifmaaGreatFr
import Derived.Lib.SliceRun
import Derived.ChangeSlices
set_option linter.unusedVariables false
set_option linter.unusedSimpArgs false
namespace Go.Sk
open Go.RowKit Go.Proofs
variable {w0 w : World} {F G : Asrt} {R : Ending → World → Prop}
variable {T : TypeId} {b m r tb rg : Nat} {q : Int} {ps : List Pg} {p : Pr}
theorem z22 (w : World) : (zeroValue 22).run Tryz.prog w = .ok (.int .u64 0) w := by
  obtain ⟨i, hi, hz0, hz1, hz2⟩ := info_parts i22
  simp [zeroValue, typeInfo, hi, hz0, Result.andThen]
def cmpT (j : Nat) : List Int × Nat :=
  [([], 0), ([16, 16, 32, 32, 33, 33, 458752, 458752], 1), ([16, 32, 32, 32, 33, 33, 458752, 458752], 2), ([16, 32, 32, 32, 33, 33, 458752, 458752], 2), ([16, 32, 33, 32, 33, 33, 458752, 458752], 3), ([16, 32, 33, 32, 33, 33, 458752, 458752], 3),
    ([16, 32, 33, 458752, 33, 33, 458752, 458752], 4), ([16, 32, 33, 458752, 33, 33, 458752, 458752], 4)].getD j ([], 0)
def row8 (g : Nat) (l : List Int) (rest : List Value) : Asrt := pts g (.cells (u64s l ++ rest).toArray 22 (0, 0))
theorem c_Compact8 {g cp : Nat} {rest : List Value} (hcp : cp = 8 + rest.length) (h : S w0 w (row8 g (cmpT 1).1 rest * F))
    (k : ∀ w' (l : List Value), S w0 w' (pts g (.cells (u64s [16, 32, 33, 458752] ++ l).toArray 22 (0, 0)) * F) → R (.returned (.slice (some ⟨g, 0, none⟩) 4 cp)) w') :
    Calls Tryz.prog 47 #[.slice (some ⟨g, 0, none⟩) 8 cp] w R := by
  refine ok_slices_Compact _ _ _ (b_f rfl ?_)
  refine ⟨fun y w' => y = 1 ∧ w' = w, fun _ _ => 0, ⟨rfl, rfl⟩, ?_⟩
  rintro _ y w1 ⟨rfl, rfl⟩
  refine b_t rfl (dr h fun w2 h2 => ?_)
  unfold row8 at h2
  refine ix_mk (by decide) (by decide) ⟨16, ld h2 rfl, ix_mk (by decide) (by decide) ⟨16, ld h2 rfl, b_t rfl ⟨⟨by decide, by decide⟩, ?_⟩⟩⟩
  have hs : (if cp = (1 : Int).toNat then some ⟨g, 0, none⟩ else (some ⟨g, 0, none⟩ : Option Addr).map (·.add ((1 : Int).toNat * 1))) = some ((⟨g, 0, none⟩ : Addr).add 1) := by
    rw [if_neg (by show ¬cp = 1; omega)]
    rfl
  simp only [hs]
  refine ⟨fun y3 y5 w' => ∃ j : Nat, 1 ≤ j ∧ j ≤ 7 ∧ y5 = j ∧ y3 = (cmpT j).2 ∧ S w0 w' (row8 g (cmpT j).1 rest * F), fun _ y5 _ => (7 - y5).toNat, ⟨1, by decide, by decide, rfl, rfl, h2⟩, ?_⟩
  rintro _ y3 y5 w3 ⟨j, h1, h7, rfl, rfl, h3⟩
  have fin : ∀ (j : Nat) (y : Int) (w' : World), j < 7 → y = (cmpT (j + 1)).2 → S w0 w' (row8 g (cmpT (j + 1)).1 rest * F) → (∃ i : Nat, 1 ≤ i ∧ i ≤ 7 ∧ IntKind.i64.wrap ((j : Int) + 1) = i ∧ y = (cmpT i).2 ∧ S w0 w' (row8 g (cmpT i).1 rest * F)) ∧ (7 - IntKind.i64.wrap ((j : Int) + 1)).toNat < (7 - (j : Int)).toNat := by
    intro j y w' hj hy hS
    rw [wi64 (by omega) (by omega)]
    exact ⟨⟨j + 1, by omega, by omega, by omega, hy, hS⟩, by omega⟩
  have : j = 1 ∨ j = 2 ∨ j = 3 ∨ j = 4 ∨ j = 5 ∨ j = 6 ∨ j = 7 := by omega
  rcases this with rfl | rfl | rfl | rfl | rfl | rfl | rfl
  · refine b_t rfl ⟨fun y w' => y = (cmpT (1 + 1)).2 ∧ S w0 w' (row8 g (cmpT (1 + 1)).1 rest * F), dr h3 fun w4 h4 => ?_, fun _ y w' h' => fin 1 y w' (by decide) h'.1 h'.2⟩
    unfold row8 at h4
    refine ix_mk (by decide) (by decide) ⟨32, ld h4 rfl, ix_mk (by decide) (by decide) ⟨16, ld h4 rfl, ?_⟩⟩
    refine b_t rfl (ix_mk (by decide) (by decide) ⟨32, ld h4 rfl, ix_mk (by decide) (by decide) (st h4 (by rw [Nat.blt_eq]; simp [u64s, cmpT]) fun w5 h5 => ⟨rfl, ?_⟩)⟩)
    exact h5
  · refine b_t rfl ⟨fun y w' => y = (cmpT (2 + 1)).2 ∧ S w0 w' (row8 g (cmpT (2 + 1)).1 rest * F), dr h3 fun w4 h4 => ?_, fun _ y w' h' => fin 2 y w' (by decide) h'.1 h'.2⟩
    unfold row8 at h4
    refine ix_mk (by decide) (by decide) ⟨32, ld h4 rfl, ix_mk (by decide) (by decide) ⟨32, ld h4 rfl, ?_⟩⟩
    exact b_f rfl ⟨rfl, h4⟩
  · refine b_t rfl ⟨fun y w' => y = (cmpT (3 + 1)).2 ∧ S w0 w' (row8 g (cmpT (3 + 1)).1 rest * F), dr h3 fun w4 h4 => ?_, fun _ y w' h' => fin 3 y w' (by decide) h'.1 h'.2⟩
    unfold row8 at h4
    refine ix_mk (by decide) (by decide) ⟨33, ld h4 rfl, ix_mk (by decide) (by decide) ⟨32, ld h4 rfl, ?_⟩⟩
    refine b_t rfl (ix_mk (by decide) (by decide) ⟨33, ld h4 rfl, ix_mk (by decide) (by decide) (st h4 (by rw [Nat.blt_eq]; simp [u64s, cmpT]) fun w5 h5 => ⟨rfl, ?_⟩)⟩)
    exact h5
  · refine b_t rfl ⟨fun y w' => y = (cmpT (4 + 1)).2 ∧ S w0 w' (row8 g (cmpT (4 + 1)).1 rest * F), dr h3 fun w4 h4 => ?_, fun _ y w' h' => fin 4 y w' (by decide) h'.1 h'.2⟩
    unfold row8 at h4
    refine ix_mk (by decide) (by decide) ⟨33, ld h4 rfl, ix_mk (by decide) (by decide) ⟨33, ld h4 rfl, ?_⟩⟩
    exact b_f rfl ⟨rfl, h4⟩
  · refine b_t rfl ⟨fun y w' => y = (cmpT (5 + 1)).2 ∧ S w0 w' (row8 g (cmpT (5 + 1)).1 rest * F), dr h3 fun w4 h4 => ?_, fun _ y w' h' => fin 5 y w' (by decide) h'.1 h'.2⟩
    unfold row8 at h4
    refine ix_mk (by decide) (by decide) ⟨458752, ld h4 rfl, ix_mk (by decide) (by decide) ⟨33, ld h4 rfl, ?_⟩⟩
    refine b_t rfl (ix_mk (by decide) (by decide) ⟨458752, ld h4 rfl, ix_mk (by decide) (by decide) (st h4 (by rw [Nat.blt_eq]; simp [u64s, cmpT]) fun w5 h5 => ⟨rfl, ?_⟩)⟩)
    exact h5
  · refine b_t rfl ⟨fun y w' => y = (cmpT (6 + 1)).2 ∧ S w0 w' (row8 g (cmpT (6 + 1)).1 rest * F), dr h3 fun w4 h4 => ?_, fun _ y w' h' => fin 6 y w' (by decide) h'.1 h'.2⟩
    unfold row8 at h4
    refine ix_mk (by decide) (by decide) ⟨458752, ld h4 rfl, ix_mk (by decide) (by decide) ⟨458752, ld h4 rfl, ?_⟩⟩
    exact b_f rfl ⟨rfl, h4⟩
  · refine b_f rfl ⟨⟨by decide, by decide⟩, ?_⟩
    have hs4 : (if cp = ((cmpT 7).2 : Int).toNat then some ⟨g, 0, none⟩ else (some ⟨g, 0, none⟩ : Option Addr).map (·.add (((cmpT 7).2 : Int).toNat * 1))) = some ⟨g, 4, none⟩ := by
      rw [if_neg (by show ¬cp = 4; omega)]
      rfl
    simp only [hs4]
    unfold row8 at h3
    have hcl := Lib.run_clear_slice (P := Tryz.prog) w3 44 22 0 (.int .u64 0) u44 z22 rfl rfl g 4 4 (cp - 4) (by decide) (fun j hj => by
      rw [cellS h3.sat]
      have : 4 + j < ((u64s (cmpT 7).1 ++ rest).toArray).size := by simp [u64s, cmpT]; omega
      rw [Array.getElem?_eq_getElem this]
      rfl) (fun j hj => frozen_of (sat_get h3.sat))
    refine ⟨_, hcl, ⟨by decide, by show (4 : Int) ≤ (cp : Int); omega⟩, ?_⟩
    refine k _ ([Value.int .u64 0, .int .u64 0, .int .u64 0, .int .u64 0] ++ rest) ⟨?_, setCells_ext _ _ _ h3.ext⟩
    have e : putC (u64s (cmpT 7).1 ++ rest).toArray 4 (List.replicate 4 (Value.int .u64 0)) = (u64s [16, 32, 33, 458752] ++ ([Value.int .u64 0, .int .u64 0, .int .u64 0, .int .u64 0] ++ rest)).toArray := by
      apply Array.toList_inj.1
      have := putC_at (List.replicate 4 (.int .u64 0)) (u64s [16, 32, 33, 458752]) (u64s [33, 33, 458752, 458752] ++ rest) (u64s (cmpT 7).1 ++ rest).toArray rfl (by simp [u64s])
      refine this.trans ?_
      show _ = u64s [16, 32, 33, 458752] ++ ([Value.int .u64 0, .int .u64 0, .int .u64 0, .int .u64 0] ++ rest)
      rw [List.append_assoc]
      rfl
    rw [← e]
    exact setCells_sat _ _ _ _ h3.sat
theorem slA_R {e : TypeId} {l : List Value} {a : Option Addr} {n c : Nat} (h : S w0 w (slA e l a n c * F)) : S w0 w (slR e 1 l a n c * F) := by
  rcases slA_cases h.sat with ⟨rfl, rfl, rfl, rfl, h1⟩ | ⟨g, rest, rfl, rfl, rfl, hm, h1⟩
  · rw [slR_nil, emp_mul]; exact ⟨h1, h.2⟩
  · exact ⟨slR_mk (by omega) (by omega) (by simp) hm h1, h.2⟩
theorem sorted_eq {l l' : List Int} (hp : l.Perm l') (h1 : l.Pairwise (· ≤ ·)) (h2 : l'.Pairwise (· ≤ ·)) : l = l' := hp.eq_of_pairwise (fun a b _ _ h3 h4 => Int.le_antisymm h3 h4) h1 h2
def nums4 : List Int := [16, 32, 33, 458752]
structure Twin (ps ps2 : List Pg) : Prop where
  w1 : wfs ps
  w2 : wfs ps2
  n1 : NumsOk ps
  n2 : NumsOk ps2
  m1 : ps.map (·.num) = nums4
  m2 : ps2.map (·.num) = nums4
  perm : ∀ k, (pgFind ps k).map (·.perm) = (pgFind ps2 k).map (·.perm)
  byte : ∀ x, mByte ps x = mByte ps2 x
theorem pgFind_of {n : Int} : ∀ {ps : List Pg}, n ∈ ps.map (·.num) → ∃ p, pgFind ps n = some p
  | p :: ps, h => by
    unfold pgFind
    by_cases hn : p.num = n
    · exact ⟨p, if_pos hn⟩
    · rw [if_neg hn]
      refine pgFind_of ?_
      rw [List.map_cons, List.mem_cons] at h
      rcases h with h | h
      · exact absurd h.symm hn
      · exact h
theorem sl_shape (p : Pg) : ∃ a l c, p.sl = .slice a l c := by
  unfold Pg.sl
  split
  · exact ⟨_, _, _, rfl⟩
  · exact ⟨_, _, _, rfl⟩
theorem byte_of {ps : List Pg} {n : Int} {p : Pg} {j : Nat} (hn : n ∈ nums4) (hf : pgFind ps n = some p) (hj : j < 4096) : p.byte j = mByte ps (n * 4096 + j) := by
  have h1 : 0 ≤ n ∧ n < 500000 := by
    have : ∀ n ∈ nums4, 0 ≤ n ∧ n < 500000 := by decide
    exact this n hn
  unfold mByte
  rw [show pg (n * 4096 + j) = n by unfold pg; omega, hf]
  show p.byte j = p.byte _
  rw [show ((n * 4096 + (j : Int)) % 4096).toNat = j by omega]
set_option maxHeartbeats 2000000 in
set_option maxRecDepth 20000 in
theorem c_Differ {m1 r1 m2 r2 : Nat} {q1 q2 : Int} {ps ps2 : List Pg} (t : Twin ps ps2) (h : S w0 w (memA m1 r1 q1 ps * (memA m2 r2 q2 ps2 * F)))
    (k : ∀ w', S w0 w' (memA m1 r1 q1 ps * (memA m2 r2 q2 ps2 * F)) → R (.returned (.tuple #[.int .u64 0, .bool false])) w') :
    Calls Tryz.prog 23 #[.pointer (some ⟨m1, 0, none⟩), .pointer (some ⟨m2, 0, none⟩)] w R := by
  have hl1 : ps.length = 4 := by have := congrArg List.length t.m1; simpa [nums4] using this
  have hl2 : ps2.length = 4 := by have := congrArg List.length t.m2; simpa [nums4] using this
  have hs4 : nums4.Pairwise (· ≤ ·) := by decide
  refine ok_vmem_Mem_Differ _ _ ⟨fun y w' => y = some ⟨m2, 0, none⟩ ∧ w' = w, ⟨rfl, rfl⟩, ?_⟩
  rintro _ y w1 ⟨rfl, rfl⟩
  refine c_numbers t.n1 (by omega) h fun l1 a1 n1 cc1 w2 hs1 hp1 h2 => ⟨_, _, _, rfl, ?_⟩
  obtain rfl := sorted_eq (hp1.trans (by rw [t.m1])) hs1 hs4
  refine c_numbers t.n2 (by omega) (h2.eq (show _ = memA m2 r2 q2 ps2 * (memA m1 r1 q1 ps * (slA 22 (nums4.map (Value.int .u64)) a1 n1 cc1 * F)) by ac_rfl)) fun l2 a2 n2 cc2 w3 hs2 hp2 h3 => ⟨_, _, _, rfl, ?_⟩
  obtain rfl := sorted_eq (hp2.trans (by rw [t.m2])) hs2 hs4
  have h4 : S w0 w3 (slA 22 (nums4.map (Value.int .u64)) a2 n2 cc2 * (slA 22 (nums4.map (Value.int .u64)) a1 n1 cc1 * (memA m1 r1 q1 ps * (memA m2 r2 q2 ps2 * F)))) := h3.eq (by ac_rfl)
  have e2 : n2 = 4 := slA_len h4
  rcases slA_cases h4.sat with ⟨_, h0, _⟩ | ⟨g2, rest2, rfl, _, _, _, h5⟩
  · omega
  subst e2
  have h6 : S w0 w3 (pts g2 (.cells (nums4.map (Value.int .u64) ++ rest2).toArray 22 (0, 0)) * (slA 22 (nums4.map (Value.int .u64)) a1 n1 cc1 * (memA m1 r1 q1 ps * (memA m2 r2 q2 ps2 * F)))) := ⟨h5, h4.2⟩
  have h7 : S w0 w3 (slR 22 1 (nums4.map (Value.int .u64)) a1 n1 cc1 * (pts g2 (.cells (nums4.map (Value.int .u64) ++ rest2).toArray 22 (0, 0)) * (memA m1 r1 q1 ps * (memA m2 r2 q2 ps2 * F)))) := slA_R (h6.eq (mulL _ _ _))
  have e1 : n1 = 4 := slA_len (h6.eq (mulL _ _ _))
  subst e1
  obtain ⟨inf, hi, hz0, hz1, hz2⟩ := info_parts i22
  refine app_slR (xs := nums4.map (Value.int .u64)) (m := 4) h7 u44 hi hz0 hz1 hz2 rfl (by decide) ?_ rfl (by intro u hu; obtain ⟨x, _, rfl⟩ := List.mem_map.1 hu; rfl) (by decide) (by decide) ?_
  · intro j u hj
    have hlt : j < (nums4.map (Value.int .u64)).length := (List.getElem?_eq_some_iff.1 hj).1
    rw [Addr.add_lit, cellS h5, List.getElem?_toArray, Nat.zero_add, List.getElem?_append_left hlt, hj]
  intro a3 cc3 w4 h8
  rcases slR_cases h8.sat with ⟨_, h0, _⟩ | ⟨g, rest, rfl, hl3, hc3, _, hm3, h9⟩
  · omega
  have h10 : S w0 w4 (slA 22 (u64s (nums4 ++ nums4)) (some ⟨g, 0, none⟩) (nums4 ++ nums4).length cc3 * _) := ⟨slA_mk (l := u64s (nums4 ++ nums4)) (rest := rest) (by have : u64s (nums4 ++ nums4) = nums4.map (Value.int .u64) ++ nums4.map (Value.int .u64) := rfl; rw [this]; omega) hm3 h9, h8.2⟩
  refine c_Sort (by decide) h10 fun l5 w5 hp5 hs5 h11 => ⟨rfl, ?_⟩
  obtain rfl : l5 = (cmpT 1).1 := sorted_eq (hp5.trans (by decide)) hs5 (by decide)
  rcases slA_cases h11.sat with ⟨_, h0, _⟩ | ⟨g', rest', hg, _, hc5, _, h12⟩
  · simp [nums4] at h0
  obtain rfl : g = g' := by cases hg; rfl
  have hc6 : cc3 = 8 + rest'.length := by rw [hc5]; simp [u64s, cmpT]; omega
  refine c_Compact8 hc6 (⟨h12, h11.2⟩ : S w0 w5 (row8 g (cmpT 1).1 rest' * _)) fun w6 l6 h13 => ⟨_, _, _, rfl, ?_⟩
  have h14 : S w0 w6 (memA m1 r1 q1 ps * (memA m2 r2 q2 ps2 * (pts g (.cells (u64s [16, 32, 33, 458752] ++ l6).toArray 22 (0, 0)) * F))) := (h13.eq (show _ = pts g2 (.cells (nums4.map (Value.int .u64) ++ rest2).toArray 22 (0, 0)) * (memA m1 r1 q1 ps * (memA m2 r2 q2 ps2 * (pts g (.cells (u64s [16, 32, 33, 458752] ++ l6).toArray 22 (0, 0)) * F))) by ac_rfl)).drop
  obtain ⟨N, hN⟩ : ∃ N : Nat, N = 4096 := ⟨_, rfl⟩
  refine ⟨fun y w' => ∃ i : Nat, y = i ∧ i ≤ 4 ∧ S w0 w' (memA m1 r1 q1 ps * (memA m2 r2 q2 ps2 * (pts g (.cells (u64s [16, 32, 33, 458752] ++ l6).toArray 22 (0, 0)) * F))), fun y _ => (4 - y).toNat, ⟨0, rfl, by decide, h14⟩, ?_⟩
  rintro _ y w7 ⟨i, rfl, hi4, h15⟩
  refine dc (fun hlt => ?_) (fun hlt => ?_)
  · obtain ⟨x, hx, hxi⟩ : ∃ x, x ∈ nums4 ∧ (u64s [16, 32, 33, 458752] ++ l6).toArray[0 + (i : Int).toNat * 1]? = some (.int .u64 x) := by
      have : i = 0 ∨ i = 1 ∨ i = 2 ∨ i = 3 := by omega
      rcases this with rfl | rfl | rfl | rfl
      · exact ⟨16, by decide, rfl⟩
      · exact ⟨32, by decide, rfl⟩
      · exact ⟨33, by decide, rfl⟩
      · exact ⟨458752, by decide, rfl⟩
    obtain ⟨p1, hp1⟩ := pgFind_of (n := x) (ps := ps) (by rw [t.m1]; exact hx)
    obtain ⟨p2, hp2⟩ := pgFind_of (n := x) (ps := ps2) (by rw [t.m2]; exact hx)
    obtain ⟨G1, hG1, _⟩ := pgs_focus hp1
    obtain ⟨G2, hG2, _⟩ := pgs_focus hp2
    have hpm : p1.perm = p2.perm := by have := t.perm x; rw [hp1, hp2] at this; exact Option.some.inj this
    obtain ⟨sa1, sl1, sc1, hsl1⟩ := sl_shape p1
    obtain ⟨sa2, sl2, sc2, hsl2⟩ := sl_shape p2
    obtain ⟨B, hB⟩ : ∃ B, B = pts m1 (.cells #[.int .i64 q1, .map (some r1)] 111 (0, 0)) * (pts r1 (mapO .u64 (memEs ps)) * (pts m2 (.cells #[.int .i64 q2, .map (some r2)] 111 (0, 0)) * (pts r2 (mapO .u64 (memEs ps2)) * (pts g (.cells (u64s [16, 32, 33, 458752] ++ l6).toArray 22 (0, 0)) * F)))) := ⟨_, rfl⟩
    obtain ⟨A, hAe⟩ : ∃ A, A = pts p1.blk (.cells #[.slice sa1 sl1 sc1, .int .i64 p1.perm] 119 (0, 0)) * (pts p2.blk (.cells #[.slice sa2 sl2 sc2, .int .i64 p2.perm] 119 (0, 0)) * (p1.dA * (p2.dA * (G1 * (G2 * B))))) := ⟨_, rfl⟩
    have hAw : memA m1 r1 q1 ps * (memA m2 r2 q2 ps2 * (pts g (.cells (u64s [16, 32, 33, 458752] ++ l6).toArray 22 (0, 0)) * F)) = A := by
      rw [hAe, hB]
      unfold memA
      rw [hG1, hG2]
      unfold pgA Pg.obj
      rw [hsl1, hsl2]
      ac_rfl
    have hA1 : A = pgA p2 * (pgA p1 * (G1 * (G2 * B))) := by
      rw [hAe]
      unfold pgA Pg.obj
      rw [hsl1, hsl2]
      ac_rfl
    refine ⟨fun w' => S w0 w' A, ?_, fun _ w' h' => ⟨?_, ?_⟩⟩
    · refine ix_mk (by omega) (by show (i : Int) < ((4 : Nat) : Int); omega) ⟨x, ld h15 hxi, dr h15 fun w8 h16 => ?_⟩
      have h17 : S w0 w8 (pts m1 (.cells #[.int .i64 q1, .map (some r1)] 111 (0, 0)) * (pts r1 (mapO .u64 (memEs ps)) * (pts m2 (.cells #[.int .i64 q2, .map (some r2)] 111 (0, 0)) * (pts r2 (mapO .u64 (memEs ps2)) * (pgsA ps * (pgsA ps2 * (pts g (.cells (u64s [16, 32, 33, 458752] ++ l6).toArray 22 (0, 0)) * F))))))) := h16.eq (by unfold memA; ac_rfl)
      have k1 := lk (r := r1) h17 u109 u22 z115 x
      have k2 := lk (r := r2) h17 u109 u22 z115 x
      rw [memEs_lookup, hp1] at k1
      rw [memEs_lookup, hp2] at k2
      have hA : S w0 w8 A := h16.eq hAw
      refine ⟨_, ld h17 rfl, nc_mk ⟨_, ld h17 rfl, ⟨_, _, k1, _, ld h17 rfl, rfl, _, _, k2, _, ld h17 rfl, rfl, ?_⟩, ⟨_, _, k2, _, ld h17 rfl, rfl, _, _, k1, _, ld h17 rfl, rfl, ?_⟩⟩⟩
      · refine ⟨fun y w' => y = false ∧ S w0 w' A, dr hA fun w9 h9 => ift rfl (ift rfl (nc_mk ⟨_, ld (h9.eq hAe) rfl, nc_mk ⟨_, ld (h9.eq hAe) rfl, by rw [hpm]; exact bne_self_eq_false _, h9⟩⟩)), ?_⟩
        rintro _ y w9 ⟨rfl, h9⟩
        refine b_f rfl ⟨fun y w' => S w0 w' A, ?_, ?_⟩
        · refine nc_mk ⟨_, _, _, ld (h9.eq hAe) rfl, ?_⟩
          have hif : ∀ (c : Prop) [Decidable c] (A B : Prop), A → B → (if c then A else B) := fun c _ A B hA hB => by split <;> assumption
          exact hif _ _ _ (nc_mk ⟨_, _, _, ld (h9.eq hAe) rfl, h9⟩) h9
        rintro _ y w10 h10
        cases y with
        | true => exact b_t rfl h10
        | false =>
          refine b_f rfl ⟨fun y w' => ∃ j : Nat, y = j ∧ j ≤ N ∧ S w0 w' A, fun y _ => (N - y).toNat, ⟨0, rfl, by omega, h10⟩, ?_⟩
          rintro _ y w11 ⟨j, rfl, hj, h11⟩
          rw [show ((4096 : Int)) = (N : Int) by omega]
          refine dc (fun hlt => ?_) (fun hlt => ?_)
          · refine dr h11 fun w12 h12 => nc_mk (nc_mk ?_)
            refine c_at (p := p1) (t.w1 _ (pgFind_mem hp1).1) (by omega) (h12.eq (hA1.trans (mulL _ _ _))) ⟨_, rfl, c_at (p := p2) (t.w2 _ (pgFind_mem hp2).1) (by omega) (h12.eq hA1) ⟨_, rfl, ?_⟩⟩
            rw [byte_of hx hp1 (show j < 4096 by omega), byte_of hx hp2 (show j < 4096 by omega), t.byte, w64_of (x := (j : Int) + 1) (by omega) (by omega)]
            exact b_f (bne_self_eq_false _) ⟨⟨j + 1, by omega, by omega, h12⟩, by simp only []; omega⟩
          · exact h11
      · refine ⟨fun y w' => y = false ∧ S w0 w' A, dr hA fun w9 h9 => ift rfl (ift rfl (nc_mk ⟨_, ld (h9.eq hAe) rfl, nc_mk ⟨_, ld (h9.eq hAe) rfl, by rw [hpm]; exact bne_self_eq_false _, h9⟩⟩)), ?_⟩
        rintro _ y w9 ⟨rfl, h9⟩
        refine b_f rfl ⟨fun y w' => S w0 w' A, ?_, ?_⟩
        · refine nc_mk ⟨_, _, _, ld (h9.eq hAe) rfl, ?_⟩
          have hif : ∀ (c : Prop) [Decidable c] (A B : Prop), A → B → (if c then A else B) := fun c _ A B hA hB => by split <;> assumption
          exact hif _ _ _ (nc_mk ⟨_, _, _, ld (h9.eq hAe) rfl, h9⟩) h9
        rintro _ y w10 h10
        cases y with
        | true => exact b_t rfl h10
        | false =>
          refine b_f rfl ⟨fun y w' => ∃ j : Nat, y = j ∧ j ≤ N ∧ S w0 w' A, fun y _ => (N - y).toNat, ⟨0, rfl, by omega, h10⟩, ?_⟩
          rintro _ y w11 ⟨j, rfl, hj, h11⟩
          rw [show ((4096 : Int)) = (N : Int) by omega]
          refine dc (fun hlt => ?_) (fun hlt => ?_)
          · refine dr h11 fun w12 h12 => nc_mk (nc_mk ?_)
            refine c_at (p := p1) (t.w1 _ (pgFind_mem hp1).1) (by omega) (h12.eq (hA1.trans (mulL _ _ _))) ⟨_, rfl, c_at (p := p2) (t.w2 _ (pgFind_mem hp2).1) (by omega) (h12.eq hA1) ⟨_, rfl, ?_⟩⟩
            rw [byte_of hx hp1 (show j < 4096 by omega), byte_of hx hp2 (show j < 4096 by omega), t.byte, w64_of (x := (j : Int) + 1) (by omega) (by omega)]
            exact b_f (bne_self_eq_false _) ⟨⟨j + 1, by omega, by omega, h12⟩, by simp only []; omega⟩
          · exact h11
    · rw [wi64 (by omega) (by omega)]
      exact ⟨i + 1, by omega, by omega, h'.eq hAw.symm⟩
    · rw [wi64 (by omega) (by omega)]; simp only []; omega
  · refine k w7 ?_
    exact (h15.eq (show _ = pts g (.cells (u64s [16, 32, 33, 458752] ++ l6).toArray 22 (0, 0)) * (memA m1 r1 q1 ps * (memA m2 r2 q2 ps2 * F)) by ac_rfl)).drop
end Go.Sk
namespace Go.Sk
open Go.RowKit Go.Proofs
variable {w0 w : World} {F G : Asrt} {R : Ending → World → Prop}
variable {T : TypeId} {b m r tb rg : Nat} {q : Int} {ps : List Pg} {p : Pr}
/-! ### A run goes on -/
def phi (f : Nat) (e0 : List (Int × Int × Int)) (s : Gs) : Gs := ⟨s.M, s.g, f, e0 ++ s.ev, s.asked⟩
def addEv (e0 : List (Int × Int × Int)) (s : Gs) : Gs := ⟨s.M, s.g, s.fuel, e0 ++ s.ev, s.asked⟩
def map3 (f : Gs → Gs) (d : Bool × Er2 × Gs) : Bool × Er2 × Gs := (d.1, d.2.1, f d.2.2)
theorem gBind_phi (L : List Int) (f : Nat) (e0 : List (Int × Int × Int)) (s : Gs) (t : Er × Int × Int) : gBind L (phi f e0 s) t = map3 (phi f e0) (gBind L s t) := by
  obtain ⟨te, t1, t2⟩ := t
  cases te with
  | some z => rfl
  | none =>
    unfold gBind
    dsimp only
    generalize lkBind L t1 t2 = u
    obtain ⟨ue, u1⟩ := u
    cases ue <;> rfl
theorem gTls_phi (L : List Int) (f : Nat) (e0 : List (Int × Int × Int)) (s : Gs) (t : Er × Int × Int) : gTls L (phi f e0 s) t = map3 (phi f e0) (gTls L s t) := by
  obtain ⟨te, t1, t2⟩ := t
  cases te with
  | some z => rfl
  | none =>
    unfold gTls
    dsimp only [phi]
    generalize lkTls L t1 t2 = u
    obtain ⟨ue, u1⟩ := u
    cases ue with
    | some z => rfl
    | none =>
      show (if (rNumM s.M (s.g.r 4)).1.isNone = true then _ else _) = map3 _ (if (rNumM s.M (s.g.r 4)).1.isNone = true then _ else _)
      by_cases c6 : (rNumM s.M (s.g.r 4)).1.isNone = true
      · rw [if_pos c6, if_pos c6]; rfl
      · rw [if_neg c6, if_neg c6]; rfl
theorem gAsk_phi (L : List Int) (x : Int) (f : Nat) (e0 : List (Int × Int × Int)) (s : Gs) : gAsk L x (phi f e0 s) = map3 (phi f e0) (gAsk L x s) := by
  unfold gAsk
  by_cases c1 : x = 1879048192
  · simp only [if_pos c1]; rfl
  simp only [if_neg c1]
  by_cases c2 : x = 1879048208
  · simp only [if_pos c2]
    exact gBind_phi L f e0 s _
  simp only [if_neg c2]
  by_cases c3 : x = 1879048224
  · simp only [if_pos c3]
    exact gTls_phi L f e0 s _
  · simp only [if_neg c3, phi, map3, List.append_assoc]
theorem up2_ne (e : Er) (c : Int) : up2 e ≠ some (none, c) := by
  cases e with
  | none => intro h; cases h
  | some x => intro h; cases h
theorem gAsk_err (L : List Int) (x : Int) (s : Gs) : (gAsk L x s).2.1 ≠ some (none, 14) := by
  have hb : ∀ o i, (lkBind L o i).1 ≠ some (none, 14) := fun o i => by unfold lkBind; split <;> (intro h; cases h)
  have ht : ∀ o i, (lkTls L o i).1 ≠ some (none, 14) := fun o i => by unfold lkTls; split <;> (intro h; cases h)
  unfold gAsk
  split
  · intro h; cases h
  split
  · unfold gBind
    split
    · split
      · intro h; cases h
      · exact hb _ _
    · exact up2_ne _ _
  split
  · unfold gTls
    split
    · split
      · split
        · intro h; cases h
        · exact up2_ne _ _
      · exact ht _ _
    · exact up2_ne _ _
  · intro h; cases h
theorem gOne_err (L : List Int) (n : Nat) (s : Gs) (h : (gOne L n s).1 = true) : (gOne L n s).2.1 ≠ some (none, 14) := by
  unfold gOne at h ⊢
  split
  · exact up2_ne _ _
  · rename_i c
    rw [if_neg c] at h
    split
    · exact gAsk_err _ _ _
    · rename_i c2
      rw [if_neg c2] at h
      cases h
theorem gStepS_phi (f n : Nat) (e0 : List (Int × Int × Int)) (s : Gs) : gStepS (phi f e0 s) n = phi n e0 (gStepS s n) := rfl
theorem gStepS_n (n k : Nat) (s : Gs) : gStepS s n = phi n [] (gStepS s k) := rfl
theorem phi_phi (f f' : Nat) (e0 e1 : List (Int × Int × Int)) (s : Gs) : phi f e0 (phi f' e1 s) = phi f (e0 ++ e1) s := by unfold phi; simp
/-- What a step does, but for the fuel. -/
theorem gOne_phi (L : List Int) (n f : Nat) (e0 : List (Int × Int × Int)) (s : Gs) (hs : ¬(rStep s.M s.g).1.isSome = true) : gOne L n (phi f e0 s) = map3 (phi n e0) (gOne L 0 (phi 0 [] s)) := by
  unfold gOne
  have h1 : ¬(rStep (phi f e0 s).M (phi f e0 s).g).1.isSome = true := hs
  have h2 : ¬(rStep (phi 0 [] s).M (phi 0 [] s).g).1.isSome = true := hs
  rw [if_neg h1, if_neg h2]
  have e : gStepS (phi f e0 s) n = phi n e0 (gStepS (phi 0 [] s) 0) := rfl
  have eg : (gStepS (phi f e0 s) n).g = (gStepS (phi 0 [] s) 0).g := rfl
  show (if (rStep s.M s.g).2.1 = true then _ else _) = map3 _ (if (rStep s.M s.g).2.1 = true then _ else _)
  by_cases c : (rStep s.M s.g).2.1 = true
  · rw [if_pos c, if_pos c, eg, e, gAsk_phi]
    rfl
  · rw [if_neg c, if_neg c, e]
    rfl
theorem gOne_stop (L : List Int) (n : Nat) (s : Gs) (hs : (rStep s.M s.g).1.isSome = true) : gOne L n s = (true, up2 (rStep s.M s.g).1, s) := by
  unfold gOne
  rw [if_pos hs]
theorem gOn_ev (L : List Int) (e0 : List (Int × Int × Int)) (n : Nat) : ∀ s, gOn L n (phi n e0 s) = ((gOn L n (phi n [] s)).1, addEv e0 (gOn L n (phi n [] s)).2) := by
  induction n with
  | zero => intro s; rfl
  | succ n ih =>
    intro s
    by_cases hs : (rStep s.M s.g).1.isSome = true
    · rw [gOn, gOn, gOne_stop L n (phi (n + 1) e0 s) hs, gOne_stop L n (phi (n + 1) [] s) hs]
      rfl
    · rw [gOn, gOn, gOne_phi L n (n + 1) e0 s hs, gOne_phi L n (n + 1) [] s hs]
      generalize gOne L 0 (phi 0 [] s) = o
      obtain ⟨d, e, t⟩ := o
      cases d with
      | true => rfl
      | false => exact ih t
theorem gOn_more (L : List Int) (n : Nat) : ∀ s, (gOn L n (phi n [] s)).1 = some (none, 14) → ∀ k, gOn L (n + k) (phi (n + k) [] s) = gOn L k (phi k [] (gOn L n (phi n [] s)).2) := by
  induction n with
  | zero => intro s h k; rw [Nat.zero_add]; rfl
  | succ n ih =>
    intro s h k
    by_cases hs : (rStep s.M s.g).1.isSome = true
    · rw [gOn, gOne_stop L n (phi (n + 1) [] s) hs] at h
      exact absurd h (up2_ne _ _)
    · have he := gOne_err L n (phi (n + 1) [] s)
      rw [show n + 1 + k = (n + k) + 1 by omega, gOn, gOne_phi L (n + k) (n + k + 1) [] s hs]
      rw [gOn, gOne_phi L n (n + 1) [] s hs] at h ⊢
      rw [gOne_phi L n (n + 1) [] s hs] at he
      generalize gOne L 0 (phi 0 [] s) = o at *
      obtain ⟨d, e, t⟩ := o
      cases d with
      | true => exact absurd h (he rfl)
      | false => exact ih t h k
theorem gOn_len (L : List Int) (n : Nat) : ∀ s, (gOn L n s).2.ev.length ≤ s.ev.length + n ∧ (gOn L n s).2.asked.length ≤ s.asked.length + 3 * n := by
  induction n with
  | zero => intro s; exact ⟨Nat.le_refl _, Nat.le_refl _⟩
  | succ n ih =>
    intro s
    have h1 : (gOne L n s).2.2.ev.length ≤ s.ev.length + 1 ∧ (gOne L n s).2.2.asked.length ≤ s.asked.length + 3 := by
      unfold gOne
      split
      · exact ⟨by simp only []; omega, by simp only []; omega⟩
      split
      · have := gAsk_ok L (IntKind.u64.wrap ((gStepS s n).g.ip - 1)) (gStepS s n)
        exact ⟨this.ev, this.asked⟩
      · exact ⟨by show s.ev.length ≤ _; omega, by show s.asked.length ≤ _; omega⟩
    rw [gOn]
    split
    · exact ⟨by omega, by omega⟩
    · have := ih (gOne L n s).2.2
      exact ⟨by omega, by omega⟩
/-! ### Errors compared with one of the codes -/
theorem eq_nilD (dd : Nat) (d : Int) (w : World) : (Op.equalIn (dd + 2) 33 .nilIface (.iface 37 (.int .i64 d))).run Tryz.prog w = .ok false w := by
  obtain ⟨ms, hi⟩ := u33
  simp [Op.equalIn, run_underlying hi]
theorem eq_ptrD (dd : Nat) (v : Value) (d : Int) (w : World) : (Op.equalIn (dd + 2) 33 (.iface 90 v) (.iface 37 (.int .i64 d))).run Tryz.prog w = .ok false w := by
  obtain ⟨ms, hi⟩ := u33
  simp [Op.equalIn, run_underlying hi]
theorem eq_nilcode (x y : Operand) (d : Int) (w : World) : eqRun Tryz.prog .eql 33 x y .nilIface (.iface 37 (.int .i64 d)) w false := by
  have e2 : (binOp .eql 33 .nilIface (.iface 37 (.int .i64 d))).run Tryz.prog w = .ok (.bool false) w := by
    simp only [binOp]
    simp [Op.equal, Op.maxDepth, eq_nilD 9998 d w]
  unfold eqRun
  simp [eqGuard, e2]
theorem eq_ptrcode (x y : Operand) (v : Value) (d : Int) (w : World) : eqRun Tryz.prog .eql 33 x y (.iface 90 v) (.iface 37 (.int .i64 d)) w false := by
  have e2 : (binOp .eql 33 (.iface 90 v) (.iface 37 (.int .i64 d))).run Tryz.prog w = .ok (.bool false) w := by
    simp only [binOp]
    simp [Op.equal, Op.maxDepth, eq_ptrD 9998 v d w]
  unfold eqRun
  simp [eqGuard, e2]
theorem eq_fuel {e : Er2} {v : Value} (x y : Operand) (h : S w0 w (errB e v * F)) : eqRun Tryz.prog .eql 33 x y v (.iface 37 (.int .i64 14)) w (decide (e = some (none, 14))) := by
  cases e with
  | none =>
    obtain ⟨rfl, _⟩ := S.pur.1 h
    exact eq_nilcode _ _ _ _
  | some z =>
    obtain ⟨a, c⟩ := z
    cases a with
    | none =>
      obtain ⟨rfl, _⟩ := S.pur.1 h
      have e1 : decide ((some (none, c) : Er2) = some (none, 14)) = (c == 14) := by
        by_cases hc : c = 14
        · subst hc; rfl
        · simp [hc]
      rw [e1]
      exact eq_code _ _ _ _ _
    | some a =>
      obtain ⟨b, h⟩ := S.exm.1 h
      rw [mulA] at h
      obtain ⟨rfl, _⟩ := S.pur.1 h
      have e1 : decide ((some (some a, c) : Er2) = some (none, 14)) = false := by simp
      rw [e1]
      exact eq_ptrcode _ _ _ _ _
end Go.Sk
namespace Go.Sk
open Go.RowKit Go.Proofs
variable {w0 w : World} {F G : Asrt} {R : Ending → World → Prop}
variable {T : TypeId} {b m r tb rg : Nat} {q : Int} {ps : List Pg} {p : Pr}
theorem run_app_none {P : Program} (w : World) (t ty e : TypeId) (i : TypeInfo) (ht : P.underlying t = some (.slice e)) (hi : P.info? e = some i) (base : Option Addr) (sLen sCap : Nat) (hle : sLen ≤ sCap) :
    (Builtin.append_ #[t, t] ty #[.slice base sLen sCap, .slice none 0 0]).run P w = .ok (.slice base sLen sCap) w := by
  cases base <;> simp [Builtin.append_, run_underlying ht, sizeOf, typeInfo, hi, Builtin.lenOf, hle, run_firstCells_none, storeCells]
theorem app_two {l xs : List (Int × Int × Int)} {a a2 : Option Addr} {c c2 : Nat} {K : Option Addr → Nat → Nat → World → Prop} (hl : l.length + xs.length ≤ 100000)
    (h : S w0 w (slR 49 3 (evs l) a l.length c * (slR 49 3 (evs xs) a2 xs.length c2 * F)))
    (k : ∀ a' c' w', S w0 w' (slR 49 3 (evs (l ++ xs)) a' (l ++ xs).length c' * F) → K a' (l ++ xs).length c' w') :
    ∃ (a' : Option Addr) (n' c' : Nat), ∃ w' : World, (Builtin.append_ #[40, 40] 40 #[.slice a l.length c, .slice a2 xs.length c2]).run Tryz.prog w = .ok (.slice a' n' c') w' ∧ K a' n' c' w' := by
  obtain ⟨inf, hi, hz0, hz1, hz2⟩ := info_parts i49
  have h2 : S w0 w (slR 49 3 (evs xs) a2 xs.length c2 * (slR 49 3 (evs l) a l.length c * F)) := h.eq (mulL _ _ _)
  have he : evs (l ++ xs) = evs l ++ evs xs := by simp [evs]
  rcases slR_cases h2.sat with ⟨rfl, hn, rfl, hx, h3⟩ | ⟨g, rest, rfl, h3, h4, _, _, h5⟩
  · obtain rfl : xs = [] := List.length_eq_zero_iff.1 hn
    rw [List.append_nil] at k
    have hle : l.length ≤ c := by
      rcases slR_cases h.sat with ⟨_, h6, h7, _⟩ | ⟨_, _, _, _, _, h6, _⟩
      · omega
      · exact h6
    exact ⟨_, _, _, w, run_app_none w 40 40 49 inf u40 hi a l.length c hle, k a c w ⟨h3, h.2⟩⟩
  · have h6 : S w0 w (pts g (.cells (evs xs ++ rest).toArray 49 (0, 0)) * (slR 49 3 (evs l) a l.length c * F)) := ⟨h5, h.2⟩
    have h7 := h6.eq (mulL _ _ _)
    refine app_slR (xs := evs xs) (m := xs.length) h7 u40 hi hz0 hz1 hz2 rfl (by decide) ?_ h3 ?_ (by simp only [maxLen]; omega) (by omega) ?_
    · intro j u hj
      have hlt : j < (evs xs).length := (List.getElem?_eq_some_iff.1 hj).1
      rw [Addr.add_lit, cellS h5, List.getElem?_toArray, Nat.zero_add, List.getElem?_append_left hlt, hj]
    · intro u hu
      obtain ⟨x, _, hx⟩ := List.mem_flatMap.1 hu
      simp [ev3] at hx
      rcases hx with rfl | rfl | rfl <;> rfl
    · intro a' c' w' h8
      have := k a' c' w' (by rw [he, List.length_append]; exact (h8.eq (mulL _ _ _)).drop)
      rw [List.length_append] at this
      exact this
theorem evk_get {l : List (Int × Int × Int)} {i j : Nat} (hi : i < l.length) (hj : j < 3) : (evs l)[i * 3 + j]? = (l[i]?).bind fun x => (ev3 x)[j]? := by
  induction l generalizing i with
  | nil => simp at hi
  | cons x l ih =>
    show (ev3 x ++ evs l)[i * 3 + j]? = _
    have h3 : (ev3 x).length = 3 := rfl
    cases i with
    | zero => rw [List.getElem?_append_left (by omega)]; simp
    | succ i =>
      rw [List.getElem?_append_right (by omega), h3, show (i + 1) * 3 + j - 3 = i * 3 + j by omega, ih (by simpa using hi)]
      simp
theorem info_v49 : Tryz.prog.underlying 49 = some (.struct (Tryz.prog.fieldsOf 49)) := by kernel_rfl
theorem partk (i : Nat) (hi : i < 3) (a b c : Int) (w : World) : (part 22 #[.int .u64 a, .int .u64 b, .int .u64 c] i).run Tryz.prog w = .ok (.int .u64 ([a, b, c].getD i 0)) w := by
  rcases i with _ | _ | _ | i
  all_goals first | omega | kernel_rfl
theorem neq_evk (x y : Operand) (a b c : Int) (w : World) : eqRun Tryz.prog .neq 49 x y (.agg #[.int .u64 a, .int .u64 b, .int .u64 c]) (.agg #[.int .u64 a, .int .u64 b, .int .u64 c]) w false := by
  have hm : Tryz.prog.eqGuardType Tryz.prog.depth 49 = false := by kernel_rfl
  have hp : Tryz.prog.stoodInHeld 49 = false := by kernel_rfl
  have hi : ∀ (a b : Int), (Op.equalIn 9999 22 (.int .u64 a) (.int .u64 b)).run Tryz.prog w = .ok (a == b) w := fun a b => run_equalIn_int w 9998 22 .u64 .u64 a b Tryz.underlying22
  have p0 := partk 0 (by decide) a b c w
  have p1 := partk 1 (by decide) a b c w
  have p2 := partk 2 (by decide) a b c w
  unfold eqRun
  have e1 := run_eqGuard_agg (P := Tryz.prog) w .neq 49 x y #[.int .u64 a, .int .u64 b, .int .u64 c] #[.int .u64 a, .int .u64 b, .int .u64 c] hm
  have e2 : (binOp .neq 49 (.agg #[.int .u64 a, .int .u64 b, .int .u64 c]) (.agg #[.int .u64 a, .int .u64 b, .int .u64 c])).run Tryz.prog w = .ok (.bool false) w := by
    rw [run_neq_struct, show (10000 : Nat) = 9999 + 1 from rfl, run_equalIn_struct w 9999 49 _ _ info_v49 hp]
    simp only [Program.fieldsOf, Tryz.underlying49, Op.eqFields, Sem.run_bind, Sem.run_ite, p0, p1, p2, Result.andThen_ok, hi, Sem.run_pure]
    simp
  simp [e1, e2]
theorem sl3_rd {l : List (Int × Int × Int)} {a : Option Addr} {n c : Nat} (h : S w0 w (slR 49 3 (evs l) a n c * F)) {i : Nat} (hi : i < l.length) :
    ∃ ad x y z, a = some ad ∧ l[i]? = some (x, y, z) ∧ w.cell? (ad.add (i * 3)) = some (.int .u64 x) ∧ w.cell? ((ad.add (i * 3)).add 1) = some (.int .u64 y) ∧ w.cell? ((ad.add (i * 3)).add 2) = some (.int .u64 z) := by
  obtain ⟨x, y, z, hx⟩ : ∃ x y z, l[i]? = some (x, y, z) := ⟨l[i].1, l[i].2.1, l[i].2.2, by rw [List.getElem?_eq_getElem hi]⟩
  have hlen := evs_length l
  have hg : ∀ j, j < 3 → (evs l)[i * 3 + j]? = (ev3 (x, y, z))[j]? := fun j hj => by rw [evk_get hi hj, hx]; rfl
  obtain ⟨ad, ha, hc0⟩ := slR_rd h (i := i * 3 + 0) (by omega)
  obtain ⟨ad1, ha1, hc1⟩ := slR_rd h (i := i * 3 + 1) (by omega)
  obtain ⟨ad2, ha2, hc2⟩ := slR_rd h (i := i * 3 + 2) (by omega)
  rw [hg _ (by decide)] at hc0 hc1 hc2
  obtain rfl := Option.some.inj (ha.symm.trans ha1)
  obtain rfl := Option.some.inj (ha.symm.trans ha2)
  exact ⟨ad, x, y, z, ha, hx, hc0, by rw [Addr.add_add]; exact hc1, by rw [Addr.add_add]; exact hc2⟩
theorem c_Same {l : List (Int × Int × Int)} {a a' : Option Addr} {c c' : Nat} (hl : l.length ≤ 100000) (h : S w0 w (slR 49 3 (evs l) a l.length c * (slR 49 3 (evs l) a' l.length c' * F)))
    (k : ∀ w', S w0 w' (slR 49 3 (evs l) a l.length c * (slR 49 3 (evs l) a' l.length c' * F)) → R (.returned (.bool true)) w') : Calls Tryz.prog 24 #[.slice a l.length c, .slice a' l.length c'] w R := by
  refine ok_shackleref20_Same _ _ _ _ _ _ (b_f (bne_self_eq_false _) ?_)
  refine ⟨fun y w' => ∃ i : Nat, y = i ∧ i ≤ l.length ∧ S w0 w' (slR 49 3 (evs l) a l.length c * (slR 49 3 (evs l) a' l.length c' * F)), fun y _ => (l.length - y).toNat, ⟨0, rfl, by omega, h⟩, ?_⟩
  rintro _ y w1 ⟨i, rfl, hi, h1⟩
  refine dc (fun hlt => dr h1 fun w2 h2 => ?_) (fun hlt => k w1 h1)
  obtain ⟨ad, x, y, z, rfl, hx, c1, c2, c3⟩ := sl3_rd h2 (i := i) (by omega)
  obtain ⟨ad', x', y', z', rfl, hx', d1, d2, d3⟩ := sl3_rd (h2.eq (mulL _ _ _)) (i := i) (by omega)
  rw [hx] at hx'
  cases hx'
  refine ix_mk (by omega) (by omega) ⟨x, by rw [Int.toNat_natCast]; exact c1, y, by rw [Int.toNat_natCast]; exact c2, z, by rw [Int.toNat_natCast]; exact c3, ?_⟩
  refine ix_mk (by omega) (by omega) ⟨x, by rw [Int.toNat_natCast]; exact d1, y, by rw [Int.toNat_natCast]; exact d2, z, by rw [Int.toNat_natCast]; exact d3, false, neq_evk _ _ _ _ _ _, b_f rfl ?_⟩
  rw [wi64 (x := (i : Int) + 1) (by omega) (by omega)]
  exact ⟨⟨i + 1, by omega, by omega, h2⟩, by simp only []; omega⟩
theorem dF {c : Prop} [Decidable c] {A B : Prop} (h : ¬c → A) (k : c → B) : if decide c = false then A else B := by
  by_cases hc : c
  · rw [if_neg (by simp [hc])]; exact k hc
  · rw [if_pos (by simp [hc])]; exact h hc
theorem tab0 {L : Lk} (h : S w0 w (pts tb (.cells #[.slice L.a L.l.length L.c, .slice none 0 0] 46 (0, 0)) * F)) : S w0 w (tabA tb L [] * F) := tab_shut (z := (none, 0, 0)) (h.eq (by
  show _ = _ * (slR 22 1 [] none 0 0 * _)
  rw [slR_nil, emp_mul]))
theorem NumsOk.alk {ps ps' : List Pg} (h : NumsOk ps) (k : Alk ps' ps) : NumsOk ps' := by
  have e : ps'.map (·.num) = ps.map (·.num) := by rw [← memEs_nums, k.es, memEs_nums]
  refine ⟨by rw [e]; exact h.1, fun p hp => ?_⟩
  have : p.num ∈ ps.map (·.num) := by rw [← e]; exact List.mem_map_of_mem hp
  obtain ⟨p', hp', e'⟩ := List.mem_map.1 this
  rw [← e']
  exact h.2 p' hp'
/-- A run from its beginning. -/
def rn (L : List Int) (M : Mv) (g : Rg) (n : Nat) : Er2 × Gs := gOn L n ⟨M, g, n, [], []⟩
theorem rn_more {L : List Int} {M : Mv} {g : Rg} {n : Nat} (h : (rn L M g n).1 = some (none, 14)) (k : Nat) :
    rn L M g (n + k) = ((gOn L k ⟨(rn L M g n).2.M, (rn L M g n).2.g, k, [], (rn L M g n).2.asked⟩).1, addEv (rn L M g n).2.ev (gOn L k ⟨(rn L M g n).2.M, (rn L M g n).2.g, k, [], (rn L M g n).2.asked⟩).2) := by
  have e := gOn_more L n ⟨M, g, 0, [], []⟩ h k
  have e2 := gOn_ev L (rn L M g n).2.ev k ⟨(rn L M g n).2.M, (rn L M g n).2.g, 0, [], (rn L M g n).2.asked⟩
  refine Eq.trans e (Eq.trans (congrArg (gOn L k) ?_) e2)
  show (⟨(rn L M g n).2.M, (rn L M g n).2.g, k, (rn L M g n).2.ev, (rn L M g n).2.asked⟩ : Gs) = ⟨(rn L M g n).2.M, (rn L M g n).2.g, k, (rn L M g n).2.ev ++ [], (rn L M g n).2.asked⟩
  rw [List.append_nil]
/-- What is left when the first memory was run. -/
structure Left (L : List Int) (M : Mv) (g : Rg) (ps' ps : List Pg) (n : Nat) (y3 : Int) (y20 : Option Addr × Nat × Nat) (y21 : Int) : Prop where
  y3 : y3 = (n : Int)
  le : n ≤ 400
  wf : wfs ps'
  mv : Sk.mv ps' = (rn L M g n).2.M
  alk : Alk ps' ps
  ev : y20.2.1 = (rn L M g n).2.ev.length
  fu : y21 = ((rn L M g n).2.fuel : Int)
set_option maxHeartbeats 4000000 in
theorem c_GuestAgain {code : List Int} {ca : Option Addr} {cc : Nat} {g : Rg} {L : Lk} {fuel more : Int} (hc : Gives F ca code) (hcB : isB code) (hcl : code.length ≤ cc) (hL : L.l.length ≤ 9223372036854775807) (hg : GivesU F L.a L.l) (h : S w0 w F)
    (k : ∀ w', S w0 w' F → R (.returned (.bool true)) w') : Calls Tryz.prog 7 #[.slice ca code.length cc, g.val, .slice L.a L.l.length L.c, .int .i64 fuel, .int .i64 more] w R := by
  refine ok_shacklelaw20_GuestAgain _ _ _ g.cells _ _ _ _ _ (al h fun b1 w1 h1 => c_up20 h1 fun w2 h2 => ⟨_, rfl, ?_⟩)
  have hc2 := hc.frame (pts b1 (.cells g.cells.toArray 25 (0, 0)))
  refine c_both20 (code := code) (data := []) (dcp := 0) hc2 (Gives.nil _ none) hcl (by decide) h2 fun m r ps mr qs w3 t1 h3 => ⟨_, _, rfl, ?_⟩
  refine c_both20 (code := code) (data := []) (dcp := 0) ((hc2.frame (rmemA mr 8 qs)).frame (memA m r 8 ps)) (Gives.nil _ none) hcl (by decide) h3 fun m2 r2 ps2 mr2 qs2 w4 t2 h4 => ⟨_, _, rfl, ?_⟩
  have hB := mv20_B (code := code) (data := []) hcB (by unfold isB; decide)
  have fin : ∀ w', S w0 w' (memA m2 r2 8 ps2 * (rmemA mr2 8 qs2 * (memA m r 8 ps * (rmemA mr 8 qs * (pts b1 (.cells g.cells.toArray 25 (0, 0)) * F))))) → R (.returned (.bool true)) w' := fun w' h' => k w' (((h'.drop.drop).drop).drop.drop)
  refine ⟨fun y w' => w' = w4 ∧ (y = false → (0 ≤ fuel ∧ fuel ≤ 200) ∧ 0 ≤ more ∧ more ≤ 200), ?_, ?_⟩
  · refine ift rfl (ift rfl (dF (fun c1 => dF (fun c2 => dF (fun c3 => ⟨rfl, fun c4 => ?_⟩) ?_) ?_) ?_))
    · have := of_decide_eq_false c4
      omega
    all_goals exact fun _ => ⟨rfl, fun e => by cases e⟩
  rintro _ y w5 ⟨rfl, hy⟩
  cases y with
  | true => exact b_t rfl (fin w5 h4)
  | false =>
  obtain ⟨⟨hf0, hf1⟩, hm0, hm1⟩ := hy rfl
  obtain ⟨f, rfl⟩ : ∃ f : Nat, fuel = f := ⟨fuel.toNat, by omega⟩
  obtain ⟨d, rfl⟩ : ∃ d : Nat, more = d := ⟨more.toNat, by omega⟩
  refine b_f rfl (al h4 fun b17 w6 h6 => al h6 fun b19 w7 h7 => ?_)
  iterate 23 refine ⟨_, ld h7 rfl, ?_⟩
  refine al h7 fun b44 w8 h8 => sww h8 rfl rfl trivial fun w9 h9 => ?_
  iterate 23 refine ⟨_, ld h9 rfl, ?_⟩
  refine al h9 fun b70 w10 h10 => sww h10 rfl rfl trivial fun w11 h11 => ?_
  obtain ⟨Z, hZ⟩ : ∃ Z, Z = rmemA mr2 8 qs2 * (rmemA mr 8 qs * (pts b1 (.cells g.cells.toArray 25 (0, 0)) * F)) := ⟨_, rfl⟩
  have hgZ : GivesU Z L.a L.l := by rw [hZ]; exact ((hg.frame _).frame _).frame _
  have h12 : S w0 w11 (tabA b17 L [] * (pts b19 (.cells #[.slice L.a L.l.length L.c, .slice none 0 0] 46 (0, 0)) * (memA m r 8 ps * (pts b44 (.cells g.cells.toArray 25 (0, 0)) * (memA m2 r2 8 ps2 * (pts b70 (.cells g.cells.toArray 25 (0, 0)) * Z)))))) := by
    refine tab0 (h11.eq ?_)
    rw [hZ]
    show pts b70 (.cells g.cells.toArray 25 (0, 0)) * (pts b44 (.cells g.cells.toArray 25 (0, 0)) * _) = _
    ac_rfl
  have h13 : S w0 w11 (tabA b19 L [] * (tabA b17 L [] * (memA m r 8 ps * (pts b44 (.cells g.cells.toArray 25 (0, 0)) * (memA m2 r2 8 ps2 * (pts b70 (.cells g.cells.toArray 25 (0, 0)) * Z)))))) := tab0 (h12.eq (mulL _ _ _))
  obtain ⟨F1, hF1⟩ : ∃ F1, F1 = memA m2 r2 8 ps2 * (pts b70 (.cells g.cells.toArray 25 (0, 0)) * (tabA b19 L [] * Z)) := ⟨_, rfl⟩
  have hgF : GivesU F1 L.a L.l := by rw [hF1]; exact ((hgZ.frame _).frame _).frame _
  have h14 : S w0 w11 (memA m r 8 ps * (pts b44 (.cells g.cells.toArray 25 (0, 0)) * (tabA b17 L [] * F1))) := h13.eq (by rw [hF1]; ac_rfl)
  refine c_Run (L := L) (g := g) (fuel := f) (asked := []) t1.o.wf t1.o.mv hB hL hgF (by simp only [List.length_nil]; omega) (by omega) h14 fun v1 a1 c1 ps1 w15 hw1 hM1 hk1 h15 => ⟨_, _, _, _, _, rfl, _, eq_fuel _ _ h15, ?_⟩
  have hle1 := gOn_len L.l f ⟨mv20 code [], g, f, [], []⟩
  have hmore := fun h => rn_more (L := L.l) (M := mv20 code []) (g := g) (n := f) h d
  rw [show gOn L.l f ⟨mv20 code [], g, f, [], []⟩ = rn L.l (mv20 code []) g f from rfl] at *
  refine ⟨fun y3 y20 y21 y22 w' => ∃ (n : Nat) (ps' : List Pg) (aa : List Int), Left L.l (mv20 code []) g ps' ps n y3 y20 y21 ∧
    S w0 w' (errB (rn L.l (mv20 code []) g n).1 y22 * (memA m r 8 ps' * (pts b44 (.cells (rn L.l (mv20 code []) g n).2.g.cells.toArray 25 (0, 0)) * (tabA b17 L aa * (slR 49 3 (evs (rn L.l (mv20 code []) g n).2.ev) y20.1 y20.2.1 y20.2.2 * F1))))), ?_, ?_⟩
  · by_cases hD : (rn L.l (mv20 code []) g f).1 = some (none, 14)
    · refine b_t (by simpa using hD) ?_
      have hmore := hmore hD
      have hB1 : MB (rn L.l (mv20 code []) g f).2.M := gOn_B f hB
      rw [hD] at h15
      obtain ⟨_, h16⟩ : v1 = .iface 37 (.int .i64 14) ∧ _ := S.pur.1 h15
      generalize rn L.l (mv20 code []) g f = D at *
      simp only [List.length_nil] at hle1
      refine c_Run (L := L) (g := D.2.g) (fuel := d) (asked := D.2.asked) hw1 hM1 hB1 hL (hgF.frame (slR 49 3 (evs D.2.ev) a1 D.2.ev.length c1)) (by omega) (by omega) h16 fun v2 a2 c2 ps3 w17 hw2 hM2 hk2 h17 => ⟨_, _, _, _, _, rfl, ?_⟩
      have hle2 := gOn_len L.l d ⟨D.2.M, D.2.g, d, [], D.2.asked⟩
      generalize gOn L.l d ⟨D.2.M, D.2.g, d, [], D.2.asked⟩ = E at *
      simp only [List.length_nil] at hle2
      refine app_two (by omega) (h17.eq (show _ = slR 49 3 (evs D.2.ev) a1 D.2.ev.length c1 * (slR 49 3 (evs E.2.ev) a2 E.2.ev.length c2 * (errB E.1 v2 * (memA m r 8 ps3 * (pts b44 (.cells E.2.g.cells.toArray 25 (0, 0)) * (tabA b17 L E.2.asked * F1))))) by ac_rfl)) fun a' c' w18 h18 => ?_
      rw [wi64 (x := (f : Int) + (d : Int)) (by omega) (by omega)]
      refine ⟨f + d, ps3, E.2.asked, ⟨by omega, by omega, hw2, ?_, hk2.trans hk1, ?_, ?_⟩, ?_⟩
      · rw [hmore]; exact hM2
      · rw [hmore]; rfl
      · rw [hmore]; rfl
      · rw [hmore]
        exact h18.eq (show _ = errB E.1 v2 * (memA m r 8 ps3 * (pts b44 (.cells E.2.g.cells.toArray 25 (0, 0)) * (tabA b17 L E.2.asked * (slR 49 3 (evs (D.2.ev ++ E.2.ev)) a' (D.2.ev ++ E.2.ev).length c' * F1)))) by ac_rfl)
    · refine b_f (by simpa using hD) ?_
      exact ⟨f, ps1, _, ⟨rfl, by omega, hw1, hM1, hk1, rfl, rfl⟩, h15⟩
  rintro _ y3 y20 y21 y22 w16 ⟨n, ps3, aa, hl, h16⟩
  obtain ⟨a3, n3, c3⟩ := y20
  obtain ⟨rfl, hn4, hw3, hM3, hk3, hev, rfl⟩ := hl
  simp only [] at hev
  subst hev
  have hle3 := gOn_len L.l n ⟨mv20 code [], g, n, [], []⟩
  have h17 : S w0 w16 (memA m2 r2 8 ps2 * (pts b70 (.cells g.cells.toArray 25 (0, 0)) * (tabA b19 L [] * (errB (rn L.l (mv20 code []) g n).1 y22 * (memA m r 8 ps3 * (pts b44 (.cells (rn L.l (mv20 code []) g n).2.g.cells.toArray 25 (0, 0)) * (tabA b17 L aa * (slR 49 3 (evs (rn L.l (mv20 code []) g n).2.ev) a3 (rn L.l (mv20 code []) g n).2.ev.length c3 * Z)))))))) := h16.eq (by rw [hF1]; ac_rfl)
  refine c_Run (L := L) (g := g) (fuel := n) (asked := []) t2.o.wf t2.o.mv hB hL (((((hgZ.frame _).frame _).frame _).frame _).frame _) (by simp only [List.length_nil]; omega) (by omega) h17 fun v5 a5 c5 ps5 w18 hw5 hM5 hk5 h18 => ⟨_, _, _, _, _, rfl, ?_⟩
  rw [show gOn L.l n ⟨mv20 code [], g, n, [], []⟩ = rn L.l (mv20 code []) g n from rfl] at *
  generalize rn L.l (mv20 code []) g n = D at *
  simp only [List.length_nil] at hle3
  have tw : Twin ps3 ps5 := by
    refine ⟨hw3, hw5, t1.o.num.alk hk3, t2.o.num.alk hk5, ?_, ?_, fun x => ?_, fun x => ?_⟩
    · rw [← memEs_nums, hk3.es, memEs_nums, t1.o.nums]; rfl
    · rw [← memEs_nums, hk5.es, memEs_nums, t2.o.nums]; rfl
    · rw [hk3.perm, hk5.perm, t1.o.perm, t2.o.perm]
    · have := hM3.trans hM5.symm
      exact congrFun (congrArg Mv.byte this) x
  refine c_Differ tw (h18.eq (show _ = memA m r 8 ps3 * (memA m2 r2 8 ps5 * (errB D.1 v5 * (errB D.1 y22 * (pts b70 (.cells D.2.g.cells.toArray 25 (0, 0)) * (pts b44 (.cells D.2.g.cells.toArray 25 (0, 0)) * (tabA b19 L D.2.asked * (tabA b17 L aa * (slR 49 3 (evs D.2.ev) a3 D.2.ev.length c3 * (slR 49 3 (evs D.2.ev) a5 D.2.ev.length c5 * Z))))))))) by ac_rfl)) fun w19 h19 => ⟨_, _, rfl, ?_⟩
  refine c_Same (by omega) (h19.eq (show _ = slR 49 3 (evs D.2.ev) a3 D.2.ev.length c3 * (slR 49 3 (evs D.2.ev) a5 D.2.ev.length c5 * (errB D.1 v5 * (errB D.1 y22 * (pts b70 (.cells D.2.g.cells.toArray 25 (0, 0)) * (pts b44 (.cells D.2.g.cells.toArray 25 (0, 0)) * (tabA b19 L D.2.asked * (tabA b17 L aa * (memA m r 8 ps3 * (memA m2 r2 8 ps5 * Z))))))))) by ac_rfl)) fun w20 h20 => ⟨_, rfl, ?_⟩
  have h21 := h20.drop.drop
  have h22 := h21.eq (mulL _ _ _)
  obtain ⟨bb, hbb⟩ : ∃ bb, bb = D.1.isNone := ⟨_, rfl⟩
  have nq1 : ∀ {K : Bool → Prop}, K bb → nilQ v5 K := fun {K} hK => nq_errB h21 (by rw [← hbb]; exact hK)
  have nq2 : ∀ {K : Bool → Prop}, K bb → nilQ y22 K := fun {K} hK => nq_errB h22 (by rw [← hbb]; exact hK)
  refine ⟨fun y w' => y = true ∧ w' = w20, nq2 ?_, ?_⟩
  · cases bb with
    | true => exact b_t rfl (nq1 (iff_ (by simp) ⟨rfl, rfl⟩))
    | false => exact b_f rfl (nq2 (b_t rfl (nq1 ⟨rfl, rfl⟩)))
  rintro _ y w21 ⟨rfl, rfl⟩
  refine ⟨fun y w' => y = true ∧ w' = w21, ift rfl (ift rfl (ift (beq_self_eq_true _) (ift rfl ?_))), ?_⟩
  · iterate 46 refine ⟨_, ld h20 rfl, ?_⟩
    exact ⟨_, eq_regs _ _ D.2.g D.2.g w21, ift (regEq_self _) ⟨rfl, rfl⟩⟩
  rintro _ y w22 ⟨rfl, rfl⟩
  refine k w22 ?_
  rw [hZ] at h20
  dsimp only at h20
  exact (h20.eq (show _ = (slR 49 3 (evs D.2.ev) a3 D.2.ev.length c3 * (slR 49 3 (evs D.2.ev) a5 D.2.ev.length c5 * (errB D.1 v5 * (errB D.1 y22 * (pts b70 (.cells D.2.g.cells.toArray 25 (0, 0)) * (pts b44 (.cells D.2.g.cells.toArray 25 (0, 0)) * (tabA b19 L D.2.asked * (tabA b17 L aa * (memA m r 8 ps3 * (memA m2 r2 8 ps5 * (rmemA mr2 8 qs2 * (rmemA mr 8 qs * pts b1 (.cells g.cells.toArray 25 (0, 0)))))))))))))) * F by ac_rfl)).drop
/-! ### Slices that are handed in -/
open Go.WideShapes Go.ChangeShapes Go.ChangeAt
theorem whole_cell {W w : World} {ad : Addr} {v : Value} (h : sat w (whole W)) (hc : W.cell? ad = some v) : w.cell? ad = some v := by
  obtain ⟨x, hx, hp⟩ := h
  have hp' : x = fun i => W.heap[i]? := hp
  unfold World.cell? at hc ⊢
  cases hh : W.heap[ad.block]? with
  | none => rw [hh] at hc; cases hc
  | some o =>
    rw [hx ad.block o (by rw [hp']; exact hh)]
    rw [hh] at hc
    exact hc
theorem open_sl {P : Program} {H : Type} {enc : TypeId × Value → H} {W : World} {k : IntKind} {base b0 : Nat} {t e : TypeId} {v : Value} {d : DataW H} {sp : Nat → Bool} {hd : Bool} {p : List MemPlace}
    (ht : P.underlying t = some (.slice e)) (he : P.underlying e = some (.int k)) (hc : P.cellsOf e = 1) (hval : Value.okWide P W .any base t v) (hd : DataW.Trod enc P W b0 sp hd t v d p) :
    ∃ (a : Option Addr) (l : List Int) (c : Nat), v = .slice a l.length c ∧ l.length ≤ c ∧ c ≤ maxLen ∧ (∀ j, j < l.length → ∃ ad, a = some ad ∧ W.cell? (ad.add j) = some (.int k (l.getD j 0))) ∧ ∀ n ∈ l, (Lit.int k n).wf = true := by
  obtain ⟨a0, n0, c0, rfl⟩ := okWide_slice ht hval
  obtain ⟨fuel, hf⟩ := hd
  rcases open_ints ht he hc hf with ⟨hcs, _⟩ | ⟨a, len, cap, zs, hcs, _, hl, hm, hz, _, hcell, hwz⟩
  · simp [Value.cells] at hcs
    obtain ⟨rfl, rfl, rfl⟩ := hcs
    exact ⟨none, [], 0, rfl, Nat.le_refl _, (by unfold maxLen; omega), fun j hj => by simp at hj, fun n hn => by cases hn⟩
  · simp [Value.cells] at hcs
    obtain ⟨rfl, rfl, rfl⟩ := hcs
    have hlen : n0 ≤ zs.length := by rw [hz]; split <;> omega
    have e1 : (zs.take n0).length = n0 := by rw [List.length_take]; omega
    refine ⟨some a, zs.take n0, c0, by rw [e1], by omega, hm, fun j hj => ⟨a, rfl, ?_⟩, fun n hn => hwz n (List.mem_of_mem_take hn)⟩
    rw [e1] at hj
    rw [hcell j (by omega)]
    simp [List.getD_eq_getElem?_getD, hj]
theorem gives_whole {W : World} {a : Option Addr} {l : List Int} (h : ∀ j, j < l.length → ∃ ad, a = some ad ∧ W.cell? (ad.add j) = some (.int .u8 (l.getD j 0))) : Gives (whole W) a l := fun w hs j hj => by
  obtain ⟨ad, e, hc⟩ := h j hj
  exact ⟨ad, e, whole_cell hs hc⟩
theorem givesU_whole {W : World} {a : Option Addr} {l : List Int} (h : ∀ j, j < l.length → ∃ ad, a = some ad ∧ W.cell? (ad.add j) = some (.int .u64 (l.getD j 0))) : GivesU (whole W) a l := fun w hs j hj => by
  obtain ⟨ad, e, hc⟩ := h j hj
  exact ⟨ad, e, whole_cell hs hc⟩
theorem isB_wf {l : List Int} (h : ∀ n ∈ l, (Lit.int .u8 n).wf = true) : isB l := fun x hx => by
  have w0 := h x hx
  have e0 : IntKind.u8.min = 0 := by kernel_rfl
  have e1 : IntKind.u8.max = 255 := by kernel_rfl
  simp [Lit.wf, e0, e1] at w0
  omega
end Go.Sk
