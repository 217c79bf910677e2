/- Contracts of the reference's memory (shackleref02, seat Z): New, Map, Poke. -/
import Derived.Test.YtnkdccidhjifmaaGreatRb
set_option linter.unusedVariables false
set_option linter.unusedSimpArgs false
namespace Go.Sk
open Go.RowKit Go.Proofs
variable {w0 w : World} {F G : Asrt} {R : Ending → World → Prop}
theorem run_app_nil {a ad2 : Option Addr} {n c c2 : Nat} (h : n ≤ c) (w : World) : (Builtin.append_ #[122, 122] 122 #[.slice a n c, .slice ad2 0 c2]).run Tryz.prog w = .ok (.slice a n c) w := by
  obtain ⟨i, hi, hz0, hz1, hz2⟩ := info_parts i132
  cases a <;> cases ad2 <;> simp [Builtin.append_, run_underlying u122, sizeOf, typeInfo, hi, hz1, Builtin.lenOf, Builtin.firstCells, h, Result.andThen, storeCells, loadCells, loadCellsFrom]
theorem c_rNew {q : Int} (h0 : 0 ≤ q) (h1 : q ≤ 65536) (h : S w0 w F) (k : ∀ m w', S w0 w' (rmemA m q [] * F) → R (.returned (.pointer (some ⟨m, 0, none⟩))) w') : Calls Tryz.prog 32 #[.int .i64 q] w R := by
  refine ok_shackleref02_New _ ?_
  refine ⟨fun y w' => y = false ∧ w' = w, ift (by simpa using h0) ⟨by simpa using h1, rfl⟩, ?_⟩
  rintro _ y w1 ⟨rfl, rfl⟩
  refine b_f rfl (al h fun b w2 h2 => k b w2 (rm_shut (a := none) (n := 0) (c := 0) ?_))
  exact h2.eq (by show _ = _ * (slA 132 [] none 0 0 * (emp * F)); rw [slA_nil, emp_mul, emp_mul])
theorem c_rasked {addr pages perm : Int} (h1 : 1 ≤ pages) (h2 : pages ≤ 34359738368) (h3 : 0 ≤ perm) (h4 : perm ≤ 7) (h5 : addr % 4096 = 0) (h6 : 4096 ≤ addr) (h7 : addr + pages * 4096 ≤ 140737488355328) (h : S w0 w F)
    (k : ∀ w', S w0 w' F → R (.returned (badR none)) w') : Calls Tryz.prog 52 #[.int .u64 addr, .int .i64 pages, .int .i64 perm] w R := by
  refine ok_shackleref02_asked _ _ _ (al h fun b1 w1 h1' => ?_)
  refine ⟨fun y w' => y = false ∧ w' = w1, ift (decide_eq_false (by omega)) (ift (decide_eq_false (by omega)) ⟨decide_eq_false (by omega), rfl⟩), ?_⟩
  rintro _ y w2 ⟨rfl, rfl⟩
  refine b_f rfl ?_
  rw [tmod_pos (by omega), h5]
  refine b_f rfl ?_
  refine ⟨fun y w' => y = false ∧ w' = w2, ift (decide_eq_false (by omega)) (ift (decide_eq_false (by omega)) ⟨?_, rfl⟩), ?_⟩
  · rw [w64_of (x := pages) (by omega) (by omega), w64_of (x := 140737488355328 - addr) (by omega) (by omega), tdiv_pos (by omega), w64_of (by omega) (by omega)]
    exact decide_eq_false (by omega)
  rintro _ y w3 ⟨rfl, rfl⟩
  refine b_f rfl (sww h1' rfl rfl trivial fun w4 h4 => ?_)
  iterate 3 refine ⟨_, ld h4 rfl, ?_⟩
  exact k w4 h4.drop
/-- A pointer more. -/
theorem app132 {A : Asrt} {a : Option Addr} {n c : Nat} {l : List Value} {f : Asrt → Asrt} {ad2 : Addr} {x : Nat} {c2 : Nat} {ty : TypeId} {K : Option Addr → Nat → Nat → World → Prop}
    (h : S w0 w A) [hA : AtSl A a n c 132 l f] (hx : w.cell? ad2 = some (.pointer (some ⟨x, 0, none⟩))) (hlen : l.length + 1 ≤ 100000000)
    (k : ∀ a' n' c' w', S w0 w' (f (slA 132 (l ++ [.pointer (some ⟨x, 0, none⟩)]) a' n' c')) → n' = l.length + 1 → K a' n' c' w') :
    ∃ (a' : Option Addr) (n' c' : Nat), ∃ w' : World, (Builtin.append_ #[122, 122] ty #[.slice a n c, .slice (some ad2) 1 c2]).run Tryz.prog w = .ok (.slice a' n' c') w' ∧ K a' n' c' w' := by
  obtain ⟨i, hi, hz0, hz1, hz2⟩ := info_parts i132
  exact app_sl h u122 hi hz0 hz1 hz2 rfl hx rfl (by simp only [maxLen]; omega) (by omega) k
def rNewPg (addr perm : Int) : Nat → List Nat → List RPg
  | _, [] => []
  | i, b :: bs => ⟨addr + (i : Int) * 4096, b, perm, List.replicate 4096 0⟩ :: rNewPg addr perm (i + 1) bs
theorem rNewPg_snoc (addr perm : Int) (b : Nat) : ∀ (bs : List Nat) (i : Nat), rNewPg addr perm i (bs ++ [b]) = rNewPg addr perm i bs ++ [⟨addr + ((i + bs.length : Nat) : Int) * 4096, b, perm, List.replicate 4096 0⟩]
  | [], i => rfl
  | c :: bs, i => by
    have := rNewPg_snoc addr perm b bs (i + 1)
    rw [List.cons_append, rNewPg, this, rNewPg, List.cons_append]
    simp only [List.length_cons]
    rw [show i + 1 + bs.length = i + (bs.length + 1) by omega]
theorem rNewPg_length (addr perm : Int) : ∀ (bs : List Nat) (i : Nat), (rNewPg addr perm i bs).length = bs.length
  | [], _ => rfl
  | _ :: bs, i => by rw [rNewPg, List.length_cons, rNewPg_length addr perm bs, List.length_cons]
theorem rNewPg_at (addr perm : Int) : ∀ (bs : List Nat) (i : Nat), ∀ p ∈ rNewPg addr perm i bs, ∃ j : Nat, i ≤ j ∧ j < i + bs.length ∧ p.addr = addr + (j : Int) * 4096 ∧ p.perm = perm ∧ p.data = List.replicate 4096 0
  | [], _, p, h => by cases h
  | b :: bs, i, p, h => by
    rcases List.mem_cons.1 h with rfl | h
    · exact ⟨i, Nat.le_refl _, by simp, rfl, rfl, rfl⟩
    · obtain ⟨j, h1, h2, h3⟩ := rNewPg_at addr perm bs (i + 1) p h
      exact ⟨j, by omega, by simp; omega, h3⟩
theorem rNewPg_sorted (addr perm : Int) : ∀ (bs : List Nat) (i : Nat), rSorted (rNewPg addr perm i bs)
  | [], _ => List.Pairwise.nil
  | b :: bs, i => by
    refine List.pairwise_cons.2 ⟨fun p hp => ?_, rNewPg_sorted addr perm bs (i + 1)⟩
    obtain ⟨j, h1, _, h3, _⟩ := rNewPg_at addr perm bs (i + 1) p hp
    rw [h3]
    show addr + (i : Int) * 4096 + 4096 ≤ addr + (j : Int) * 4096
    omega
theorem tz131 : (tyZero Tryz.prog 131).cells = (Value.int .u64 0 :: Value.int .i64 0 :: List.replicate 4096 (Value.int .u8 0)).toArray := by kernel_rfl
theorem rptrs_append (ps qs : List RPg) : rptrs (ps ++ qs) = rptrs ps ++ rptrs qs := by simp [rptrs]
theorem newPg_obj (a pm : Int) (b n : Nat) (d : List Int) (h : d = List.replicate n 0) :
    (((Value.int .u64 0 :: Value.int .i64 0 :: List.replicate n (Value.int .u8 0)).toArray.setIfInBounds 0 (.int .u64 a)).setIfInBounds 1 (.int .i64 pm)) = (RPg.cells ⟨a, b, pm, d⟩).toArray := by
  subst h
  apply Array.toList_inj.1
  simp [RPg.cells]
set_option maxHeartbeats 1000000 in
theorem c_rMap {m : Nat} {q : Int} {ps : List RPg} {addr pages perm : Int} (h1 : 1 ≤ pages) (h3 : 0 ≤ perm) (h4 : perm ≤ 7) (h5 : addr % 4096 = 0) (h6 : 4096 ≤ addr) (h7 : addr + pages * 4096 ≤ 140737488355328)
    (hw : rwfs ps) (hq : q ≤ 65536) (hroom : ps.length + pages ≤ q) (hfree : ∀ p ∈ ps, p.addr + 4096 ≤ addr) (h : S w0 w (rmemA m q ps * F))
    (k : ∀ (bs : List Nat) w', (bs.length : Int) = pages → S w0 w' (rmemA m q (ps ++ rNewPg addr perm 0 bs) * F) → R (.returned (badR none)) w') :
    Calls Tryz.prog 34 #[.pointer (some ⟨m, 0, none⟩), .int .u64 addr, .int .i64 pages, .int .i64 perm] w R := by
  refine ok_shackleref02_Mem_Map _ _ _ _ (al h fun b1 w1 h1' => ?_)
  refine c_rasked h1 (by omega) h3 h4 h5 h6 h7 h1' fun w2 h2 => ⟨_, _, _, rfl, al h2 fun b8 w3 h3' => sww h3' rfl rfl trivial fun w4 h4' => ⟨_, ld h4' rfl, ?_⟩⟩
  refine b_f rfl ?_
  obtain ⟨a, c, h8⟩ := rm_open (h4'.eq (show _ = rmemA m q ps * (pts b1 (.cells (badC none).toArray 84 (0, 0)) * (pts b8 (.cells (badC none).toArray 84 (0, 0)) * F)) by
    show pts b8 (.cells (badC none).toArray 84 (0, 0)) * (pts b1 (.cells (badC none).toArray 84 (0, 0)) * _) = _
    ac_rfl))
  generalize hF : pts b1 (.cells (badC none).toArray 84 (0, 0)) * (pts b8 (.cells (badC none).toArray 84 (0, 0)) * F) = F2 at h8
  have hlp : (ps.length : Int) ≤ 65536 := by omega
  refine ⟨fun y w' => ∃ i : Nat, y = i ∧ i ≤ ps.length ∧ S w0 w' (pts m (.cells #[.int .i64 q, .slice a ps.length c] 124 (0, 0)) * (slA 132 (rptrs ps) a ps.length c * (rpsA ps * F2))), fun y _ => (ps.length - y).toNat, ⟨0, rfl, by omega, h8⟩, ?_⟩
  rintro _ y w5 ⟨i, rfl, hi, h9⟩
  refine ⟨_, _, _, ld h9 rfl, ?_⟩
  refine dc (fun hlt => ?_) (fun hlt => ?_)
  · obtain ⟨p, hp⟩ : ∃ p, ps[i]? = some p := ⟨_, List.getElem?_eq_getElem (by omega)⟩
    obtain ⟨ad, rfl, hc1, hc2⟩ := rm_rd h9 hp
    have hf := hfree p (List.mem_of_getElem? hp)
    refine ⟨fun y w' => y = false ∧ w' = w5, ⟨_, _, _, ld h9 rfl, ix_mk (by omega) (by omega) ⟨_, by rw [Int.toNat_natCast]; exact hc1, nc_mk ⟨_, hc2 0, ?_⟩⟩⟩, ?_⟩
    · exact df (by omega) ⟨rfl, rfl⟩
    rintro _ y w6 ⟨rfl, rfl⟩
    rw [wi64 (x := (i : Int) + 1) (by omega) (by omega)]
    exact b_f rfl ⟨⟨i + 1, by omega, by omega, h9⟩, by simp only []; omega⟩
  refine dr h9 fun w6 h10 => ⟨_, ld h10 rfl, _, _, _, ld h10 rfl, ?_⟩
  rw [wi64 (x := q - (ps.length : Int)) (by omega) (by omega)]
  refine df (by omega) ?_
  refine ⟨fun z y w' => ∃ i : Nat, y = i ∧ i ≤ ps.length ∧ S w0 w' (slA 132 (rptrs (ps.take i)) z.1 z.2.1 z.2.2 * (pts m (.cells #[.int .i64 q, .slice a ps.length c] 124 (0, 0)) * (slA 132 (rptrs ps) a ps.length c * (rpsA ps * F2)))), fun _ y _ => (ps.length - y).toNat,
    ⟨0, rfl, by omega, h10.eq (by show _ = slA 132 [] none 0 0 * _; rw [slA_nil, emp_mul])⟩, ?_⟩
  rintro _ ⟨oa, on, oc⟩ y w7 ⟨i2, rfl, hi2, h11⟩
  obtain rfl : on = i2 := by
    have := slA_len h11
    rw [rptrs_length, List.length_take] at this
    simp only [] at this
    omega
  refine ⟨fun y w' => y = decide (on < ps.length) ∧ w' = w7, ?_, ?_⟩
  · refine ⟨_, _, _, ld h11 rfl, ?_⟩
    refine dc (fun hlt2 => ?_) (fun hlt2 => ⟨(decide_eq_false (by omega)).symm, rfl⟩)
    obtain ⟨p, hp⟩ : ∃ p, ps[on]? = some p := ⟨_, List.getElem?_eq_getElem (by omega)⟩
    obtain ⟨ad, rfl, hc1, hc2⟩ := rm_rd h11.drop hp
    have hf := hfree p (List.mem_of_getElem? hp)
    refine ⟨_, _, _, ld h11 rfl, ix_mk (by omega) (by omega) ⟨_, by rw [Int.toNat_natCast]; exact hc1, nc_mk ⟨_, hc2 0, ?_, rfl⟩⟩⟩
    rw [decide_eq_true (show p.addr < addr by omega), decide_eq_true (show on < ps.length by omega)]
  rintro _ y w8 ⟨rfl, rfl⟩
  refine dc (fun hlt2 => ?_) (fun hlt2 => ?_)
  · obtain ⟨p, hp⟩ : ∃ p, ps[on]? = some p := ⟨_, List.getElem?_eq_getElem (by omega)⟩
    obtain ⟨ad, rfl, hc1, hc2⟩ := rm_rd h11.drop hp
    refine ⟨_, _, _, ld h11 rfl, ix_mk (by omega) (by omega) ⟨_, by rw [Int.toNat_natCast]; exact hc1, ?_⟩⟩
    refine al h11 fun b9 w9 h12 => app132 h12 (ld h12 rfl) (by rw [rptrs_length, List.length_take]; omega) ?_
    intro a' n' c' w10 h13 hn'
    rw [rptrs_length, List.length_take] at hn'
    rw [wi64 (x := (on : Int) + 1) (by omega) (by omega)]
    refine ⟨⟨on + 1, by omega, by omega, ?_⟩, by simp only []; omega⟩
    have e : rptrs (ps.take (on + 1)) = rptrs (ps.take on) ++ [.pointer (some ⟨p.blk, 0, none⟩)] := by
      rw [List.take_add_one, hp, rptrs_append]
      rfl
    rw [e]
    exact h13.drop
  obtain rfl : on = ps.length := by omega
  rw [List.take_length] at h11
  refine ⟨fun z y w' => ∃ bs : List Nat, y = bs.length ∧ bs.length ≤ pages ∧ S w0 w' (slA 132 (rptrs (ps ++ rNewPg addr perm 0 bs)) z.1 z.2.1 z.2.2 * (pts m (.cells #[.int .i64 q, .slice a ps.length c] 124 (0, 0)) * (slA 132 (rptrs ps) a ps.length c * (rpsA (ps ++ rNewPg addr perm 0 bs) * F2)))), fun _ y _ => (pages - y).toNat,
    ⟨[], rfl, by simp; omega, by rw [rNewPg, List.append_nil]; exact h11⟩, ?_⟩
  rintro _ ⟨na, nn, nc'⟩ y w9 ⟨bs, rfl, hbl, h12⟩
  refine dc (fun hlt3 => ?_) (fun hlt3 => ?_)
  · refine al h12 fun b10 w10 h13 => al h13 fun b11 w11 h14 => ?_
    refine app132 h14 (ld h14 rfl) (by rw [rptrs_length, List.length_append, rNewPg_length]; omega) ?_
    intro a' n' c' w12 h15 hn'
    rw [wi64 (x := (bs.length : Int) + 1) (by omega) (by omega)]
    refine ⟨⟨bs ++ [b10], by simp, by simp; omega, ?_⟩, by simp only []; omega⟩
    have ea : IntKind.u64.wrap (addr + IntKind.u64.wrap (IntKind.u64.wrap (bs.length : Int) * 4096)) = addr + ((0 + bs.length : Nat) : Int) * 4096 := by
      rw [w64_of (x := (bs.length : Int)) (by omega) (by omega), w64_of (x := (bs.length : Int) * 4096) (by omega) (by omega), w64_of (by omega) (by omega)]
      omega
    rw [rNewPg_snoc, ← List.append_assoc, rptrs_append _ [_], rpsA_append _ [_]]
    have eo : (((tyZero Tryz.prog 131).cells).setIfInBounds 0 (.int .u64 (IntKind.u64.wrap (addr + IntKind.u64.wrap (IntKind.u64.wrap (bs.length : Int) * 4096))))).setIfInBounds 1 (.int .i64 perm) = (RPg.cells ⟨addr + ((0 + bs.length : Nat) : Int) * 4096, b10, perm, List.replicate 4096 0⟩).toArray := by
      rw [tz131, ea]
      exact newPg_obj _ _ _ _ _ rfl
    rw [eo] at h15
    refine (h15.drop).eq ?_
    show pts b10 _ * _ = slA 132 (rptrs (ps ++ rNewPg addr perm 0 bs) ++ [.pointer (some ⟨b10, 0, none⟩)]) a' n' c' * (_ * (_ * (rpsA (ps ++ rNewPg addr perm 0 bs) * (rpA _ * emp) * F2)))
    rw [mul_emp]
    unfold rpA
    ac_rfl
  · refine ⟨_, _, _, ld h12 rfl, ⟨by simp only []; omega, by simp only []; omega⟩, ?_⟩
    have en : ((ps.length : Nat) : Int).toNat = ps.length := Int.toNat_natCast _
    have hnc : nn ≤ nc' := by
      rcases slA_cases h12.sat with ⟨_, h1, h2, _⟩ | ⟨_, _, _, h1, h2, _⟩
      · simp only [] at h1 h2; omega
      · simp only [] at h1 h2
        rw [h2, h1, List.length_append]
        omega
    rw [en, Nat.sub_self]
    refine ⟨na, nn, nc', w9, run_app_nil hnc w9, ?_⟩
    have hnn : nn = (rptrs (ps ++ rNewPg addr perm 0 bs)).length := slA_len h12
    refine st h12 rfl fun w10 h13 => ?_
    have h14 : S w0 w10 (pts m (.cells #[.int .i64 q, .slice na nn nc'] 124 (0, 0)) * (slA 132 (rptrs (ps ++ rNewPg addr perm 0 bs)) na nn nc' * (rpsA (ps ++ rNewPg addr perm 0 bs) * F2))) :=
      (h13.eq (show slA 132 (rptrs (ps ++ rNewPg addr perm 0 bs)) na nn nc' * (pts m (.cells #[.int .i64 q, .slice na nn nc'] 124 (0, 0)) * (slA 132 (rptrs ps) a ps.length c * (rpsA (ps ++ rNewPg addr perm 0 bs) * F2))) = slA 132 (rptrs ps) a ps.length c * _ by ac_rfl)).drop
    subst hF
    have h15 := rm_shut h14
    refine sww (h15.eq (show _ = pts b1 (.cells (badC none).toArray 84 (0, 0)) * (pts b8 (.cells (badC none).toArray 84 (0, 0)) * (rmemA m q (ps ++ rNewPg addr perm 0 bs) * F)) by ac_rfl)) rfl rfl trivial fun w11 h16 => ?_
    iterate 3 refine ⟨_, ld h16 rfl, ?_⟩
    exact k bs w11 (by omega) h16.drop.drop
theorem c_rPoke {m : Nat} {q : Int} {ps : List RPg} {addr : Int} {l : List Int} {a : Option Addr} {c : Nat} (hw : rwfs ps) (hs : rSorted ps) (hl : ps.length ≤ 100000) (hn : l.length ≤ 100000) (h0 : 0 ≤ addr) (h1 : addr < 18446744073709551616)
    (hg : Gives F a l) (h : S w0 w (rmemA m q ps * F))
    (k : ∀ ps' w', RPutIf ps ps' addr l (rWrite (rmv ps) 0 6 addr l) → S w0 w' (rmemA m q ps' * F) → R (.returned (badR (rWrite (rmv ps) 0 6 addr l))) w') :
    Calls Tryz.prog 36 #[.pointer (some ⟨m, 0, none⟩), .int .u64 addr, .slice a l.length c] w R := by
  refine ok_shackleref02_Mem_Poke _ _ _ _ _ (al h fun b1 w1 h2 => ?_)
  refine c_rput (by decide) hw hs hl hn h0 h1 (hg.frame _) (h2.eq (show _ = rmemA m q ps * (pts b1 (.cells (badC none).toArray 84 (0, 0)) * F) by
    show pts b1 (.cells (badC none).toArray 84 (0, 0)) * _ = _
    ac_rfl)) fun ps' w3 hp h3 => ?_
  have h4 : S w0 w3 (pts b1 (.cells (badC none).toArray 84 (0, 0)) * (rmemA m q ps' * F)) := h3.eq (by ac_rfl)
  generalize rWrite (rmv ps) 0 6 addr l = e at *
  cases e with
  | none =>
    refine ⟨_, _, _, rfl, sww h4 rfl rfl trivial fun w5 h5 => ?_⟩
    iterate 3 refine ⟨_, ld h5 rfl, ?_⟩
    exact k ps' w5 hp h5.drop
  | some x =>
    refine ⟨_, _, _, rfl, sww h4 rfl rfl trivial fun w5 h5 => ?_⟩
    iterate 3 refine ⟨_, ld h5 rfl, ?_⟩
    exact k ps' w5 hp h5.drop
end Go.Sk
