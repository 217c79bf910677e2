/- Contracts of the reference's memory (shackleref02, seat Z): find, get. -/
import Derived.Test.YtnkdccidhjifmaaGreatDa
set_option linter.unusedVariables false
set_option linter.unusedSimpArgs false
namespace Go.Sk
open Go.RowKit Go.Proofs
variable {w0 w : World} {F G : Asrt} {R : Ending → World → Prop}
structure RPg where
  addr : Int
  blk : Nat
  perm : Int
  data : List Int
def RPg.cells (p : RPg) : List Value := .int .u64 p.addr :: .int .i64 p.perm :: p.data.map (Value.int .u8)
structure RPg.wf (p : RPg) : Prop where
  len : p.data.length = 4096
  nn : 0 ≤ p.addr
  al : p.addr % 4096 = 0
  top : p.addr + 4096 ≤ 140737488355328
def rpA (p : RPg) : Asrt := pts p.blk (.cells p.cells.toArray 131 (0, 0))
def rpsA : List RPg → Asrt
  | [] => emp
  | p :: ps => rpA p * rpsA ps
theorem rpsA_append : ∀ ps qs : List RPg, rpsA (ps ++ qs) = rpsA ps * rpsA qs
  | [], qs => (emp_mul _).symm
  | p :: ps, qs => by
    show rpA p * rpsA (ps ++ qs) = rpA p * rpsA ps * rpsA qs
    rw [rpsA_append ps qs, mulA]
def rptrs (ps : List RPg) : List Value := ps.map fun p => .pointer (some ⟨p.blk, 0, none⟩)
theorem rptrs_length (ps : List RPg) : (rptrs ps).length = ps.length := by simp [rptrs]
def rmemA (m : Nat) (q : Int) (ps : List RPg) : Asrt := ex fun z : Sl3 => pts m (.cells #[.int .i64 q, .slice z.1 z.2.1 z.2.2] 124 (0, 0)) * (slA 132 (rptrs ps) z.1 z.2.1 z.2.2 * rpsA ps)
theorem rm_open {m : Nat} {q : Int} {ps : List RPg} (h : S w0 w (rmemA m q ps * F)) : ∃ (a : Option Addr) (c : Nat), S w0 w (pts m (.cells #[.int .i64 q, .slice a ps.length c] 124 (0, 0)) * (slA 132 (rptrs ps) a ps.length c * (rpsA ps * F))) := by
  obtain ⟨⟨a, n, c⟩, h⟩ := S.exm.1 h
  have h2 : S w0 w (slA 132 (rptrs ps) a n c * (pts m (.cells #[.int .i64 q, .slice a n c] 124 (0, 0)) * (rpsA ps * F))) := h.eq (by ac_rfl)
  have hn := slA_len h2
  rw [rptrs_length] at hn
  subst hn
  exact ⟨a, c, h2.eq (by ac_rfl)⟩
theorem rm_shut {m n : Nat} {q : Int} {ps : List RPg} {a : Option Addr} {c : Nat} (h : S w0 w (pts m (.cells #[.int .i64 q, .slice a n c] 124 (0, 0)) * (slA 132 (rptrs ps) a n c * (rpsA ps * F)))) : S w0 w (rmemA m q ps * F) :=
  S.exm.2 ⟨(a, n, c), h.eq (by ac_rfl)⟩
theorem rps_focus {p : RPg} : ∀ {ps : List RPg} {i : Nat}, ps[i]? = some p → ∃ G, rpsA ps = rpA p * G ∧ ∀ p', rpsA (ps.set i p') = rpA p' * G
  | [], _, h => by simp at h
  | q :: ps, 0, h => by
    simp at h
    subst h
    exact ⟨rpsA ps, rfl, fun p' => rfl⟩
  | q :: ps, i + 1, h => by
    simp at h
    obtain ⟨G, hG, hs⟩ := rps_focus h
    exact ⟨rpA q * G, by rw [rpsA, hG, mulL], fun p' => by rw [List.set_cons_succ, rpsA, hs, mulL]⟩
theorem rm_rd {m n c : Nat} {q : Int} {ps : List RPg} {a : Option Addr} {p : RPg} {i : Nat} (h : S w0 w (pts m (.cells #[.int .i64 q, .slice a n c] 124 (0, 0)) * (slA 132 (rptrs ps) a n c * (rpsA ps * F)))) (hi : ps[i]? = some p) :
    ∃ ad, a = some ad ∧ w.cell? (ad.add (i * 1)) = some (.pointer (some ⟨p.blk, 0, none⟩)) ∧ ∀ j, w.cell? ⟨p.blk, j, none⟩ = p.cells[j]? := by
  obtain ⟨hlt, _⟩ := List.getElem?_eq_some_iff.1 hi
  obtain ⟨ad, ha, hc⟩ := slA_rd (h.eq (mulL _ _ _)) (i := i) (by rw [rptrs_length]; exact hlt)
  refine ⟨ad, ha, by rw [Nat.mul_one, hc]; simp [rptrs, hi], fun j => ?_⟩
  obtain ⟨G, hG, _⟩ := rps_focus hi
  have h2 : S w0 w (pts p.blk (.cells p.cells.toArray 131 (0, 0)) * (G * (F * (pts m (.cells #[.int .i64 q, .slice a n c] 124 (0, 0)) * slA 132 (rptrs ps) a n c)))) := h.eq (by rw [hG]; unfold rpA; ac_rfl)
  rw [cellS h2.sat]
  simp
def rSorted (ps : List RPg) : Prop := ps.Pairwise fun p q => p.addr + 4096 ≤ q.addr
def rwfs (ps : List RPg) : Prop := ∀ p ∈ ps, p.wf
def rIn (p : RPg) (x : Int) : Prop := p.addr ≤ x ∧ x < p.addr + 4096
instance (p : RPg) (x : Int) : Decidable (rIn p x) := by unfold rIn; exact inferInstance
def rLook : List RPg → Int → Option RPg
  | [], _ => none
  | p :: ps, x => if rIn p x then some p else rLook ps x
theorem rLook_none {x : Int} : ∀ {ps : List RPg}, (∀ p ∈ ps, ¬ rIn p x) → rLook ps x = none
  | [], _ => rfl
  | p :: ps, h => by rw [rLook, if_neg (h p (.head _)), rLook_none fun q hq => h q (.tail _ hq)]
theorem rLook_some {x : Int} {p : RPg} : ∀ {ps : List RPg} {i : Nat}, rSorted ps → ps[i]? = some p → rIn p x → rLook ps x = some p
  | [], _, _, h, _ => by simp at h
  | q :: ps, 0, _, h, hx => by simp at h; subst h; rw [rLook, if_pos hx]
  | q :: ps, i + 1, hs, h, hx => by
    simp at h
    have h1 := (List.pairwise_cons.1 hs).1 p (List.mem_of_getElem? h)
    rw [rLook, if_neg (by unfold rIn at hx ⊢; omega)]
    exact rLook_some (List.pairwise_cons.1 hs).2 h hx
theorem rLook_at {x : Int} {p : RPg} : ∀ {ps : List RPg}, rLook ps x = some p → p ∈ ps ∧ rIn p x
  | [], h => by cases h
  | q :: ps, h => by
    unfold rLook at h
    split at h
    · cases h; exact ⟨.head _, by assumption⟩
    · exact ⟨.tail _ (rLook_at h).1, (rLook_at h).2⟩
theorem sorted_lt {ps : List RPg} (hs : rSorted ps) {i j : Nat} {p q : RPg} (hi : ps[i]? = some p) (hj : ps[j]? = some q) (hij : i < j) : p.addr + 4096 ≤ q.addr := by
  obtain ⟨h1, rfl⟩ := List.getElem?_eq_some_iff.1 hi
  obtain ⟨h2, rfl⟩ := List.getElem?_eq_some_iff.1 hj
  exact List.pairwise_iff_getElem.1 hs i j h1 h2 hij
theorem c_rfind {m : Nat} {q : Int} {ps : List RPg} {x : Int} (hw : rwfs ps) (hs : rSorted ps) (hl : ps.length ≤ 100000) (h0 : 0 ≤ x) (h1 : x < 18446744073709551616) (h : S w0 w (rmemA m q ps * F))
    (k : ∀ (i : Nat) p, ps[i]? = some p → rIn p x → R (.returned (.int .i64 (i : Int))) w) (kn : (∀ p ∈ ps, ¬ rIn p x) → R (.returned (.int .i64 (-1))) w) :
    Calls Tryz.prog 91 #[.pointer (some ⟨m, 0, none⟩), .int .u64 x] w R := by
  refine ok_shackleref02_Mem_find _ _ ?_
  obtain ⟨a, c, h2⟩ := rm_open h
  refine ⟨_, _, _, ld h2 rfl, ?_⟩
  refine ⟨fun y z w' => ∃ lo hi : Nat, y = lo ∧ z = hi ∧ lo ≤ hi ∧ hi ≤ ps.length ∧ (∀ j p, j < lo → ps[j]? = some p → p.addr + 4096 ≤ x) ∧ (∀ j p, hi ≤ j → ps[j]? = some p → x < p.addr + 4096) ∧ w' = w, fun y z _ => (z - y).toNat,
    ⟨0, ps.length, rfl, rfl, by omega, by omega, fun j p hj => by omega, fun j p hj hp => by have := (List.getElem?_eq_some_iff.1 hp).1; omega, rfl⟩, ?_⟩
  rintro _ y z w1 ⟨lo, hi, rfl, rfl, hlh, hhl, hL, hH, rfl⟩
  refine dc (fun hlt => ?_) (fun hlt => ?_)
  · have e1 : IntKind.i64.wrap ((IntKind.i64.wrap ((lo : Int) + (hi : Int))).tdiv 2) = (((lo + hi) / 2 : Nat) : Int) := by
      rw [wi64 (x := (lo : Int) + hi) (by omega) (by omega), tdiv_pos (by omega), wi64 (by omega) (by omega)]
      omega
    rw [e1]
    obtain ⟨md, hmd⟩ : ∃ md, md = (lo + hi) / 2 := ⟨_, rfl⟩
    rw [← hmd]
    have hm1 : lo ≤ md := by omega
    have hm2 : md < hi := by omega
    obtain ⟨p, hp⟩ : ∃ p, ps[md]? = some p := ⟨_, List.getElem?_eq_getElem (by omega)⟩
    have hpw := hw p (List.mem_of_getElem? hp)
    have hpn := hpw.nn
    have hpt := hpw.top
    obtain ⟨ad, rfl, hc1, hc2⟩ := rm_rd h2 hp
    refine ⟨fun y w' => y = decide (p.addr + 4096 ≤ x) ∧ w' = w1, ?_, ?_⟩
    · refine ⟨_, _, _, ld h2 rfl, ix_mk (by omega) (by omega) ⟨_, by rw [Int.toNat_natCast]; exact hc1, nc_mk ⟨_, hc2 0, ?_⟩⟩⟩
      refine dc (fun hle => ?_) (fun hle => ?_)
      · refine ⟨_, _, _, ld h2 rfl, ix_mk (by omega) (by omega) ⟨_, by rw [Int.toNat_natCast]; exact hc1, nc_mk ⟨_, hc2 0, ?_, rfl⟩⟩⟩
        rw [w64_of (by omega) (by omega)]
        exact decide_eq_decide.2 (by omega)
      · exact ⟨(decide_eq_false (by omega)).symm, rfl⟩
    rintro _ y w2 ⟨rfl, rfl⟩
    refine dc (fun hc => ?_) (fun hc => ?_)
    · rw [wi64 (x := (md : Int) + 1) (by omega) (by omega)]
      refine ⟨⟨md + 1, hi, by omega, rfl, by omega, by omega, ?_, hH, rfl⟩, by simp only []; omega⟩
      intro j p' hj hp'
      by_cases hjm : j = md
      · subst hjm; rw [hp] at hp'; cases hp'; exact hc
      · have := sorted_lt hs hp' hp (by omega); omega
    · refine ⟨⟨lo, md, rfl, rfl, by omega, by omega, hL, ?_, rfl⟩, by simp only []; omega⟩
      intro j p' hj hp'
      by_cases hjm : j = md
      · subst hjm; rw [hp] at hp'; cases hp'; omega
      · have := sorted_lt hs hp hp' (by omega); omega
  · obtain rfl : lo = hi := by omega
    have none' : (∀ p, ps[lo]? = some p → ¬ p.addr ≤ x) → ∀ p ∈ ps, ¬ rIn p x := by
      intro hn p hp hin
      obtain ⟨j, hj⟩ := List.mem_iff_getElem?.1 hp
      unfold rIn at hin
      rcases Nat.lt_trichotomy j lo with h4 | h4 | h4
      · have := hL j p h4 hj; omega
      · subst h4; exact hn p hj hin.1
      · obtain ⟨p', hp'⟩ : ∃ p', ps[lo]? = some p' := ⟨_, List.getElem?_eq_getElem (by have := (List.getElem?_eq_some_iff.1 hj).1; omega)⟩
        have h5 := sorted_lt hs hp' hj h4
        have h6 := hn p' hp'
        omega
    refine ⟨fun y w' => w' = w1 ∧ (y = true → ∃ p, ps[lo]? = some p ∧ p.addr ≤ x) ∧ (y = false → ∀ p, ps[lo]? = some p → ¬ p.addr ≤ x), ⟨_, _, _, ld h2 rfl, ?_⟩, ?_⟩
    · refine dc (fun hl2 => ?_) (fun hl2 => ?_)
      · obtain ⟨p, hp⟩ : ∃ p, ps[lo]? = some p := ⟨_, List.getElem?_eq_getElem (by omega)⟩
        obtain ⟨ad, rfl, hc1, hc2⟩ := rm_rd h2 hp
        refine ⟨_, _, _, ld h2 rfl, ix_mk (by omega) (by omega) ⟨_, by rw [Int.toNat_natCast]; exact hc1, nc_mk ⟨_, hc2 0, rfl, ?_, ?_⟩⟩⟩
        · intro hd
          exact ⟨p, hp, of_decide_eq_true hd⟩
        · intro hd p' hp'
          rw [hp] at hp'
          cases hp'
          exact of_decide_eq_false hd
      · refine ⟨rfl, (fun hd => by cases hd), fun _ p hp => ?_⟩
        have := (List.getElem?_eq_some_iff.1 hp).1
        omega
    rintro _ y w2 ⟨rfl, ht, hf⟩
    cases y with
    | true =>
      obtain ⟨p, hp, hle⟩ := ht rfl
      exact b_t rfl (k lo p hp ⟨hle, hH lo p (Nat.le_refl _) hp⟩)
    | false => exact b_f rfl (kn (none' (hf rfl)))
def rmv (ps : List RPg) : Mv := ⟨fun p x => match rLook ps (x % 18446744073709551616) with | some g => bAnd .i64 g.perm p == p | none => false,
  fun x => match rLook ps (x % 18446744073709551616) with | some g => g.data.getD (x % 4096).toNat 0 | none => 0⟩
def badR : Er → Value
  | none => .agg #[.int .i64 0, .bool false, .int .u64 0]
  | some x => .agg #[.int .i64 x.2, .bool true, .int .u64 x.1]
def badC : Er → List Value
  | none => [.int .i64 0, .bool false, .int .u64 0]
  | some x => [.int .i64 x.2, .bool true, .int .u64 x.1]
theorem mList_succ (M : Mv) (a : Int) (n : Nat) : mList M a (n + 1) = mList M a n ++ [M.byte (a + n)] := by simp [mList, List.range_succ]
theorem mList_length (M : Mv) (a : Int) (n : Nat) : (mList M a n).length = n := by simp [mList]
theorem c_rget {m : Nat} {q : Int} {ps : List RPg} {addr perm code : Int} {n : Nat} (hw : rwfs ps) (hs : rSorted ps) (hl : ps.length ≤ 100000) (hn : n ≤ 100000) (h0 : 0 ≤ addr) (h1 : addr < 18446744073709551616) (h : S w0 w (rmemA m q ps * F))
    (k : ∀ a c w', S w0 w' (slA 5 (u8s (rRead (rmv ps) perm code addr n).2) a (rRead (rmv ps) perm code addr n).2.length c * (rmemA m q ps * F)) →
      R (.returned (.tuple #[.slice a (rRead (rmv ps) perm code addr n).2.length c, badR (rRead (rmv ps) perm code addr n).1])) w') :
    Calls Tryz.prog 90 #[.pointer (some ⟨m, 0, none⟩), .int .u64 addr, .int .u64 (n : Int), .int .i64 perm, .int .i64 code] w R := by
  refine ok_shackleref02_Mem_get _ _ _ _ _ (al h fun b1 w1 h1' => ?_)
  refine ⟨fun z y w' => ∃ i : Nat, y = i ∧ i ≤ n ∧ (∀ j : Nat, j < i → (rmv ps).ok perm (addr + j) = true) ∧ z.2.1 = i ∧ S w0 w' (slA 5 (u8s (mList (rmv ps) addr i)) z.1 z.2.1 z.2.2 * (rmemA m q ps * (pts b1 (.cells (badC none).toArray 84 (0, 0)) * F))), fun _ y _ => (n - y).toNat,
    ⟨0, rfl, by omega, fun j hj => by omega, rfl, h1'.eq (by show _ = slA 5 [] none 0 0 * _; rw [slA_nil, emp_mul, mulL]; rfl)⟩, ?_⟩
  rintro _ ⟨a, nn, c⟩ y w2 ⟨i, rfl, hi, hok, hnn, h2⟩
  simp only [] at hnn h2
  have hnn' := hnn.symm
  subst hnn'
  refine dc (fun hlt => ?_) (fun hlt => ?_)
  · have ea : IntKind.u64.wrap (addr + (i : Int)) = (addr + i) % 18446744073709551616 := w64 _
    rw [ea]
    obtain ⟨x, hx⟩ : ∃ x, x = (addr + i) % 18446744073709551616 := ⟨_, rfl⟩
    rw [← hx]
    have x0 : 0 ≤ x := by omega
    have x1 : x < 18446744073709551616 := by omega
    have h3 : S w0 w2 (rmemA m q ps * (slA 5 (u8s (mList (rmv ps) addr i)) a i c * (pts b1 (.cells (badC none).toArray 84 (0, 0)) * F))) := h2.eq (mulL _ _ _)
    have bad : ∀ w3, S w0 w3 (rmemA m q ps * (slA 5 (u8s (mList (rmv ps) addr i)) a i c * (pts b1 (.cells (badC none).toArray 84 (0, 0)) * F))) → (rmv ps).ok perm (addr + i) ≠ true →
        (∀ w4, S w0 w4 (pts b1 (.cells (badC (some (x, code))).toArray 84 (0, 0)) * (slA 5 (u8s (mList (rmv ps) addr i)) a i c * (rmemA m q ps * F))) → R (.returned (.tuple #[.slice none 0 0, badR (some (x, code))])) w4) := by
      intro w3 _ hbad w4 h4
      have e : rRead (rmv ps) perm code addr n = (some (x, code), []) := by
        unfold rRead
        rw [mBad_some (k := i) hbad n 0 (by omega) (by omega) fun j _ hj => hok j hj, hx]
      rw [e] at k
      exact k none 0 w4 (h4.drop.drop.eq (by show _ = slA 5 [] none 0 0 * _; rw [slA_nil, emp_mul]))
    have fail : ∀ w3, S w0 w3 (rmemA m q ps * (slA 5 (u8s (mList (rmv ps) addr i)) a i c * (pts b1 (.cells (badC none).toArray 84 (0, 0)) * F))) → (rmv ps).ok perm (addr + i) ≠ true →
        sts w3 (⟨b1, 0, none⟩ : Addr) 3 [.int .i64 code, .bool true, .int .u64 x] (fun w19 => ∃ q20 : Int, w19.cell? (⟨b1, 0, none⟩ : Addr) = some (.int .i64 q20) ∧ ∃ q21 : Bool, w19.cell? (⟨b1, 1, none⟩ : Addr) = some (.bool q21) ∧ ∃ q22 : Int, w19.cell? (⟨b1, 2, none⟩ : Addr) = some (.int .u64 q22) ∧
          R (.returned (.tuple #[.slice none 0 0, .agg #[.int .i64 q20, .bool q21, .int .u64 q22]])) w19) := by
      intro w3 h3 hbad
      refine sww (h3.eq (show _ = pts b1 (.cells (badC none).toArray 84 (0, 0)) * (slA 5 (u8s (mList (rmv ps) addr i)) a i c * (rmemA m q ps * F)) by ac_rfl)) rfl rfl trivial fun w4 h4 => ?_
      refine ⟨_, ld h4 rfl, _, ld h4 rfl, _, ld h4 rfl, ?_⟩
      exact bad w3 h3 hbad w4 h4
    refine c_rfind hw hs hl x0 x1 h3 ?_ ?_
    · intro ix p hp hin
      have hpl : rLook ps x = some p := rLook_some hs hp hin
      have hpw := hw p (List.mem_of_getElem? hp)
      have hokp : (rmv ps).ok perm (addr + i) = (bAnd .i64 p.perm perm == perm) := by
        show (match rLook ps ((addr + i) % 18446744073709551616) with | some g => bAnd .i64 g.perm perm == perm | none => false) = _
        rw [← hx, hpl]
      have hlen := (List.getElem?_eq_some_iff.1 hp).1
      obtain ⟨a4, c4, h4⟩ := rm_open h3
      obtain ⟨ad, rfl, hc1, hc2⟩ := rm_rd h4 hp
      refine ⟨_, rfl, ?_⟩
      refine ⟨fun y w' => y = (bAnd .i64 p.perm perm != perm) ∧ w' = w2, ?_, ?_⟩
      · exact ift (decide_eq_false (by omega)) ⟨_, _, _, ld h4 rfl, ix_mk (by omega) (by omega) ⟨_, by rw [Int.toNat_natCast]; exact hc1, nc_mk ⟨_, by rw [Addr.add_lit]; exact hc2 1, rfl, rfl⟩⟩⟩
      rintro _ y w3 ⟨rfl, rfl⟩
      cases hq : (bAnd .i64 p.perm perm != perm) with
      | true =>
        refine b_t rfl (fail w3 h3 (by rw [hokp]; simpa using hq))
      | false =>
        have hq' : (rmv ps).ok perm (addr + i) = true := by rw [hokp]; simpa using hq
        refine b_f rfl ⟨_, _, _, ld h4 rfl, ix_mk (by omega) (by omega) ⟨_, by rw [Int.toNat_natCast]; exact hc1, nc_mk ?_⟩⟩
        rw [tmod_pos x0]
        have hb : p.cells[2 + (x % 4096).toNat]? = some (.int .u8 ((rmv ps).byte (addr + i))) := by
          have e2 : (addr + i) % 4096 = x % 4096 := by omega
          have e3 : (rmv ps).byte (addr + i) = p.data.getD (x % 4096).toNat 0 := by
            show (match rLook ps ((addr + i) % 18446744073709551616) with | some g => g.data.getD ((addr + i) % 4096).toNat 0 | none => 0) = _
            rw [← hx, hpl, e2]
          rw [e3]
          have hpl2 := hpw.len
          have hlt2 : (x % 4096).toNat < p.data.length := by omega
          rw [show 2 + (x % 4096).toNat = (x % 4096).toNat + 1 + 1 by omega]
          simp [RPg.cells, hlt2, List.getD_eq_getElem?_getD]
        refine ⟨⟨by omega, by omega⟩, _, by rw [Addr.add_lit, Addr.add_lit, Nat.mul_one, Nat.zero_add]; exact (hc2 _).trans hb, ?_⟩
        refine al (h3.eq (mulL _ _ _)) fun b8 w8 h8 => app8 h8 (ld h8 rfl) (by rw [u8s_length, mList_length]; omega) ?_
        intro a' n' c' w9 h9 hn'
        rw [u8s_length, mList_length] at hn'
        have e4 : IntKind.u64.wrap ((i : Int) + 1) = ((i + 1 : Nat) : Int) := by rw [w64_of (by omega) (by omega)]; omega
        rw [e4]
        refine ⟨⟨i + 1, rfl, by omega, ?_, hn', ?_⟩, by simp only []; omega⟩
        · intro j hj
          by_cases hji : j = i
          · subst hji; exact hq'
          · exact hok j (by omega)
        · rw [mList_succ, u8s_snoc]
          exact h9.drop
    · intro hnone
      refine ⟨_, rfl, ?_⟩
      have hbad : (rmv ps).ok perm (addr + i) ≠ true := by
        show (match rLook ps ((addr + i) % 18446744073709551616) with | some g => bAnd .i64 g.perm perm == perm | none => false) ≠ true
        rw [← hx, rLook_none hnone]
        simp
      refine ⟨fun y w' => y = true ∧ w' = w2, iff_ (by simp) ⟨rfl, rfl⟩, ?_⟩
      rintro _ y w3 ⟨rfl, rfl⟩
      exact b_t rfl (fail w3 h3 hbad)
  · obtain rfl : i = n := by omega
    have e : rRead (rmv ps) perm code addr i = (none, mList (rmv ps) addr i) := by
      unfold rRead
      rw [mBad_all i 0 fun j _ hj => hok j (by omega)]
    rw [e] at k
    have hl2 := mList_length (rmv ps) addr i
    simp only [hl2] at k
    refine sww (h2.eq (show _ = pts b1 (.cells (badC none).toArray 84 (0, 0)) * (slA 5 (u8s (mList (rmv ps) addr i)) a i c * (rmemA m q ps * F)) by ac_rfl)) rfl rfl trivial fun w4 h4 => ?_
    refine ⟨_, ld h4 rfl, _, ld h4 rfl, _, ld h4 rfl, ?_⟩
    exact k a c w4 h4.drop
end Go.Sk
