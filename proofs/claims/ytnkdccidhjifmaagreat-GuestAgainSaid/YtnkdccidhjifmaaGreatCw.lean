/- Contracts of the layer vmem, more (seat Z): Map. -/
import Derived.Test.YtnkdccidhjifmaaGreatSo
set_option linter.unusedVariables false
set_option linter.unusedSimpArgs false
namespace Go.Sk
open Go.RowKit Go.Proofs

def newPgs (perm : Int) : Int → List Nat → List Pg
  | _, [] => []
  | n, b :: bs => ⟨n, b, perm, none⟩ :: newPgs perm (n + 1) bs
theorem newPgs_snoc (perm : Int) (b : Nat) : ∀ (bs : List Nat) (n : Int), newPgs perm n (bs ++ [b]) = newPgs perm n bs ++ [⟨n + bs.length, b, perm, none⟩]
  | [], n => by simp [newPgs]
  | c :: bs, n => by
    have := newPgs_snoc perm b bs (n + 1)
    simp [newPgs, this]
    omega
theorem newPgs_find (perm : Int) : ∀ (bs : List Nat) (n k : Int), k < n ∨ n + bs.length ≤ k → pgFind (newPgs perm n bs) k = none
  | [], _, _, _ => rfl
  | b :: bs, n, k, h => by
    unfold newPgs pgFind
    simp only [List.length_cons] at h
    rw [if_neg (by simp only []; omega)]
    exact newPgs_find perm bs (n + 1) k (by omega)
theorem pgFind_append (k : Int) : ∀ (ps qs : List Pg), pgFind (ps ++ qs) k = (pgFind ps k).or (pgFind qs k)
  | [], _ => rfl
  | p :: ps, qs => by
    have := pgFind_append k ps qs
    rw [List.cons_append]
    by_cases hp : p.num = k
    · simp [pgFind, hp]
    · simp [pgFind, hp, this]
theorem pgsA_append : ∀ ps qs : List Pg, pgsA (ps ++ qs) = pgsA ps * pgsA qs
  | [], qs => (emp_mul _).symm
  | p :: ps, qs => by
    show pgA p * pgsA (ps ++ qs) = pgA p * pgsA ps * pgsA qs
    rw [pgsA_append ps qs, mulA]
theorem memEs_append (ps qs : List Pg) : memEs (ps ++ qs) = memEs ps ++ memEs qs := by simp [memEs]
theorem memEs_length (ps : List Pg) : (memEs ps).length = ps.length := by simp [memEs]
theorem pgFind_none_of {ps : List Pg} {k : Int} (h : ∀ p ∈ ps, p.num ≠ k) : pgFind ps k = none := by
  cases hf : pgFind ps k with
  | none => rfl
  | some p => exact absurd (pgFind_mem hf).2 (h p (pgFind_mem hf).1)

theorem newPgs_num (perm : Int) : ∀ (bs : List Nat) (n : Int), ∀ p ∈ newPgs perm n bs, n ≤ p.num ∧ p.num < n + bs.length
  | [], _, p, h => by cases h
  | b :: bs, n, p, h => by
    rcases List.mem_cons.1 h with rfl | h
    · simp; omega
    · have := newPgs_num perm bs (n + 1) p h
      simp
      omega
theorem newPgs_nodup (perm : Int) : ∀ (bs : List Nat) (n : Int), ((newPgs perm n bs).map (·.num)).Nodup
  | [], _ => List.nodup_nil
  | b :: bs, n => by
    refine List.nodup_cons.2 ⟨fun h => ?_, newPgs_nodup perm bs (n + 1)⟩
    obtain ⟨p, hp, e⟩ := List.mem_map.1 h
    have := newPgs_num perm bs (n + 1) p hp
    simp only [] at e
    omega
theorem NumsOk.map {ps : List Pg} (h : NumsOk ps) {perm n : Int} {bs : List Nat} (h0 : 0 ≤ n) (h1 : n + bs.length ≤ 18446744073709551616) (hfree : ∀ p ∈ ps, p.num < n ∨ n + bs.length ≤ p.num) : NumsOk (ps ++ newPgs perm n bs) := by
  refine ⟨?_, ?_⟩
  · rw [List.map_append]
    refine List.nodup_append.2 ⟨h.nodup, newPgs_nodup perm bs n, ?_⟩
    intro a ha b hb e
    subst e
    obtain ⟨p, hp, rfl⟩ := List.mem_map.1 ha
    obtain ⟨q, hq, e⟩ := List.mem_map.1 hb
    have h2 := newPgs_num perm bs n q hq
    have h3 := hfree p hp
    omega
  · intro p hp
    rcases List.mem_append.1 hp with hp | hp
    · exact h.range p hp
    · have := newPgs_num perm bs n p hp
      omega
theorem NumsOk.nil : NumsOk [] := ⟨List.nodup_nil, fun p h => by cases h⟩
theorem c_Map {w0 w : World} {R : Ending → World → Prop} {m r : Nat} {q : Int} {ps : List Pg} {F : Asrt} {addr pages perm : Int} (hN : NumsOk ps) (h1 : 1 ≤ pages) (h3 : 0 ≤ perm) (h4 : perm ≤ 7) (h5 : addr % 4096 = 0) (h6 : 4096 ≤ addr) (h7 : addr + pages * 4096 ≤ 140737488355328)
    (hq : q ≤ 65536) (hps : ps.length ≤ 12) (hroom : ps.length + pages ≤ q) (hfree : ∀ p ∈ ps, p.num < addr / 4096 ∨ addr / 4096 + pages ≤ p.num) (h : S w0 w (memA m r q ps * F))
    (k : ∀ (bs : List Nat) w', (bs.length : Int) = pages → S w0 w' (memA m r q (ps ++ newPgs perm (addr / 4096) bs) * F) → R (.returned .nilIface) w') :
    Calls Tryz.prog 33 #[.pointer (some ⟨m, 0, none⟩), .int .u64 addr, .int .i64 pages, .int .i64 perm] w R := by
  refine ok_vmem_Mem_Map _ _ _ _ ?_
  refine c_asked h1 (by omega) h3 h4 h5 h6 h7 ⟨_, _, _, rfl, nq_nil ?_⟩
  refine b_f rfl ?_
  refine c_numbers hN hps h ?_
  intro l a n c w1 hs hp hm
  refine ⟨_, _, _, rfl, ?_⟩
  have hlen : l.length ≤ 100000 := by have := hp.length_eq; simp at this; omega
  have hsl : S w0 w1 (slA 22 (l.map (Value.int .u64)) a n c * (memA m r q ps * F)) := hm.eq (by ac_rfl)
  have hn : n = l.length := by have := slA_len hsl; simpa using this
  subst hn
  refine c_bs hs hlen hsl ?_
  intro i found hi hlt hge
  refine ⟨_, _, rfl, ?_⟩
  refine ⟨fun b w' => b = false ∧ w' = w1, ?_, ?_⟩
  · refine dc (fun hil => ?_) (fun _ => ⟨rfl, rfl⟩)
    have hil' : i < l.length := by omega
    obtain ⟨ad, rfl, hc⟩ := slA_rd hsl (i := i) (by simpa using hil')
    refine ix_mk (by omega) (by omega) ⟨_, by rw [Int.toNat_natCast, Nat.mul_one, hc]; simp [hil']; rfl, ?_, rfl⟩
    have h8 : l[i] ∈ ps.map (·.num) := hp.mem_iff.1 (List.getElem_mem hil')
    obtain ⟨p, hp1, hp2⟩ := List.mem_map.1 h8
    have h9 := hfree p hp1
    have h10 := hge i (Nat.le_refl _) hil'
    simp only [List.getD_eq_getElem?_getD, List.getElem?_eq_getElem hil', Option.getD_some] at h10
    have : ¬ (l[i] < addr / 4096 + pages) := by rw [← hp2] at h10 ⊢; omega
    simpa using this
  rintro _ b w2 ⟨rfl, rfl⟩
  refine b_f rfl ?_
  have hm2 : S w0 w2 (memA m r q ps * F) := hsl.drop
  refine dr hm2 fun w3 h3' => ?_
  have h3 : S w0 w3 (pts m (.cells #[.int .i64 q, .map (some r)] 111 (0, 0)) * (pts r (mapO .u64 (memEs ps)) * (pgsA ps * F))) := h3'.eq (by unfold memA; ac_rfl)
  refine ⟨_, ld h3 rfl, _, ld h3 rfl, _, _, mlen (r := r) h3 u109, _, ld h3 rfl, rfl, ?_⟩
  rw [memEs_length, wi64 (by omega) (by omega)]
  refine df (by omega) ?_
  refine ⟨fun y w' => ∃ bs : List Nat, y = addr / 4096 + bs.length ∧ bs.length ≤ pages ∧ S w0 w' (memA m r q (ps ++ newPgs perm (addr / 4096) bs) * F), fun y _ => (addr / 4096 + pages - y).toNat, ⟨[], by simp, by simp; omega, by rw [newPgs, List.append_nil]; exact h3'⟩, ?_⟩
  rintro _ y w4 ⟨bs, rfl, hbl, h4'⟩
  have h4 : S w0 w4 (pts m (.cells #[.int .i64 q, .map (some r)] 111 (0, 0)) * (pts r (mapO .u64 (memEs (ps ++ newPgs perm (addr / 4096) bs))) * (pgsA (ps ++ newPgs perm (addr / 4096) bs) * F))) := h4'.eq (by unfold memA; ac_rfl)
  refine dc (fun hlt => ?_) (fun hlt => ?_)
  · refine ⟨_, ld h4 rfl, ?_⟩
    refine al h4 fun b w5 h5 => ?_
    refine mu (r := r) h5 u109 u22 ?_ ?_
    · rw [memEs_lookup, pgFind_append, newPgs_find perm bs _ _ (.inr (Int.le_refl _)), pgFind_none_of (fun p hp => by have := hfree p hp; omega)]
      rfl
    · intro w6 h6
      refine ⟨⟨bs ++ [b], ?_, ?_, ?_⟩, ?_⟩
      · rw [w64_of (by omega) (by omega)]; simp; omega
      · simp; omega
      · have e1 : pgA ⟨addr / 4096 + bs.length, b, perm, none⟩ = pts b (.cells #[.slice none 0 0, .int .i64 perm] 119 (0, 0)) := pgA_none _ _ _
        have e2 : pgsA (ps ++ newPgs perm (addr / 4096) (bs ++ [b])) = pgsA (ps ++ newPgs perm (addr / 4096) bs) * pts b (.cells #[.slice none 0 0, .int .i64 perm] 119 (0, 0)) := by
          rw [newPgs_snoc, ← List.append_assoc, pgsA_append _ [_], ← e1]
          show _ * (pgA _ * emp) = _
          rw [mul_emp]
        have e3 : memEs (ps ++ newPgs perm (addr / 4096) (bs ++ [b])) = memEs (ps ++ newPgs perm (addr / 4096) bs) ++ [(addr / 4096 + bs.length, .pointer (some ⟨b, 0, none⟩))] := by
          rw [newPgs_snoc, ← List.append_assoc, memEs_append _ [_]]
          rfl
        refine h6.eq ?_
        unfold memA
        rw [e2, e3]
        ac_rfl
      · simp only []
        rw [w64_of (by omega) (by omega)]; omega
  · exact k bs w4 (by omega) h4'
end Go.Sk
