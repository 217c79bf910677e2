/- Contracts of the reference's memory (shackleref02, seat Z): put, New, Map. -/
import Derived.Test.YtnkdccidhjifmaaGreatRa
set_option linter.unusedVariables false
set_option linter.unusedSimpArgs false
namespace Go.Sk
open Go.RowKit Go.Proofs
variable {w0 w : World} {F G : Asrt} {R : Ending → World → Prop}
theorem mBad_none {M : Mv} {perm addr : Int} : ∀ (n i : Nat), mBad M perm addr i n = none → ∀ j : Nat, i ≤ j → j < i + n → M.ok perm (addr + j) = true
  | 0, i, _, j, h0, h1 => by omega
  | n + 1, i, h, j, h0, h1 => by
    rw [mBad] at h
    split at h
    · rename_i hk
      by_cases hij : i = j
      · subst hij; exact hk
      · exact mBad_none n (i + 1) h j (by omega) (by omega)
    · cases h
theorem set_same {α : Type} {l : List α} {i : Nat} {x : α} (h : l[i]? = some x) : l.set i x = l := by
  refine List.ext_getElem? fun j => ?_
  rw [List.getElem?_set]
  by_cases c : i = j
  · subst c; rw [if_pos rfl, h]; simp [(List.getElem?_eq_some_iff.1 h).1]
  · rw [if_neg c]
theorem rIn_congr {p q : RPg} (h : p.addr = q.addr) {y : Int} : rIn p y ↔ rIn q y := by unfold rIn; rw [h]
theorem rLook_set {p p' : RPg} {y : Int} (ha : p'.addr = p.addr) : ∀ {ps : List RPg} {i : Nat}, rSorted ps → ps[i]? = some p → rLook (ps.set i p') y = if rIn p y then some p' else rLook ps y
  | [], _, _, h => by simp at h
  | q :: ps, 0, hs, h => by
    simp at h
    subst h
    rw [List.set_cons_zero, rLook, rLook]
    by_cases c : rIn q y
    · rw [if_pos c, if_pos ((rIn_congr ha).2 c)]
    · rw [if_neg c, if_neg c, if_neg (fun hh => c ((rIn_congr ha).1 hh))]
  | q :: ps, i + 1, hs, h => by
    simp at h
    have h1 := (List.pairwise_cons.1 hs).1 p (List.mem_of_getElem? h)
    rw [List.set_cons_succ, rLook, rLook_set ha (List.pairwise_cons.1 hs).2 h, rLook]
    by_cases c : rIn q y
    · rw [if_pos c, if_neg (fun hh => by unfold rIn at c hh; omega), if_pos c]
    · rw [if_neg c, if_neg c]
def rSame (ps ps' : List RPg) : Prop := ps'.map (fun p => (p.addr, p.blk, p.perm)) = ps.map (fun p => (p.addr, p.blk, p.perm))
theorem rSame.sorted {ps ps' : List RPg} (h : rSame ps ps') (hs : rSorted ps) : rSorted ps' := by
  have e : ∀ qs : List RPg, rSorted qs ↔ (qs.map (fun p => (p.addr, p.blk, p.perm))).Pairwise fun a b => a.1 + 4096 ≤ b.1 := fun qs => by
    unfold rSorted
    rw [List.pairwise_map]
  rw [e, h, ← e]
  exact hs
theorem rSame.length {ps ps' : List RPg} (h : rSame ps ps') : ps'.length = ps.length := by have := congrArg List.length h; simpa using this
structure RPut (ps ps' : List RPg) (addr : Int) (l : List Int) : Prop where
  same : rSame ps ps'
  wf : rwfs ps'
  ok : ∀ perm x, (rmv ps').ok perm x = (rmv ps).ok perm x
  byte : ∀ y, (rmv ps').byte y = if (y - addr) % 18446744073709551616 < l.length then l.getD ((y - addr) % 18446744073709551616).toNat 0 else (rmv ps).byte y
theorem RPut.nil {ps : List RPg} {addr : Int} (hw : rwfs ps) : RPut ps ps addr [] := ⟨rfl, hw, fun _ _ => rfl, fun y => by rw [if_neg]; simp only [List.length_nil]; omega⟩
theorem RPut.step {ps ps' : List RPg} {addr : Int} {l : List Int} {i ix : Nat} {p : RPg} (h : RPut ps ps' addr (l.take i)) (hs : rSorted ps') (hi : i < l.length) (hl : l.length ≤ 100000) (hp : ps'[ix]? = some p) (hin : rIn p ((addr + i) % 18446744073709551616)) :
    RPut ps (ps'.set ix { p with data := p.data.set ((addr + i) % 18446744073709551616 % 4096).toNat (l.getD i 0) }) addr (l.take (i + 1)) := by
  have hpw := h.wf p (List.mem_of_getElem? hp)
  have hlk : ∀ y, rLook (ps'.set ix { p with data := p.data.set ((addr + i) % 18446744073709551616 % 4096).toNat (l.getD i 0) }) y = if rIn p y then some { p with data := p.data.set ((addr + i) % 18446744073709551616 % 4096).toNat (l.getD i 0) } else rLook ps' y := fun y => rLook_set (p := p) (p' := { p with data := p.data.set ((addr + i) % 18446744073709551616 % 4096).toNat (l.getD i 0) }) rfl hs hp
  have hlp : ∀ y, rIn p y → rLook ps' y = some p := fun y hy => rLook_some hs hp hy
  refine ⟨?_, ?_, ?_, ?_⟩
  · show (ps'.set ix _).map _ = _
    rw [List.map_set, ← h.same]
    exact set_same (by simp [hp])
  · intro g hg
    rcases List.mem_or_eq_of_mem_set hg with hg | rfl
    · exact h.wf g hg
    · exact ⟨by simp [hpw.len], hpw.nn, hpw.al, hpw.top⟩
  · intro perm x
    rw [← h.ok perm x]
    show (match rLook (ps'.set ix _) (x % 18446744073709551616) with | some g => bAnd .i64 g.perm perm == perm | none => false) = (match rLook ps' (x % 18446744073709551616) with | some g => bAnd .i64 g.perm perm == perm | none => false)
    rw [hlk]
    by_cases c : rIn p (x % 18446744073709551616)
    · rw [if_pos c, hlp _ c]
    · rw [if_neg c]
  · intro y
    have hb := h.byte y
    have e1 : (l.take (i + 1)).length = i + 1 := by simp; omega
    have e2 : (l.take i).length = i := by simp; omega
    rw [e1]
    rw [e2] at hb
    have tk : ∀ (n j : Nat), j < n → (l.take n).getD j 0 = l.getD j 0 := fun n j hj => by simp [List.getD_eq_getElem?_getD, hj]
    have step : (rmv (ps'.set ix { p with data := p.data.set ((addr + i) % 18446744073709551616 % 4096).toNat (l.getD i 0) })).byte y = if y % 18446744073709551616 = (addr + i) % 18446744073709551616 then l.getD i 0 else (rmv ps').byte y := by
      show (match rLook (ps'.set ix _) (y % 18446744073709551616) with | some g => g.data.getD (y % 4096).toNat 0 | none => 0) = if _ then _ else (match rLook ps' (y % 18446744073709551616) with | some g => g.data.getD (y % 4096).toNat 0 | none => 0)
      rw [hlk]
      have hl4 := hpw.len
      by_cases c : rIn p (y % 18446744073709551616)
      · rw [if_pos c, hlp _ c]
        show (p.data.set _ _).getD _ 0 = _
        rw [List.getD_eq_getElem?_getD, List.getElem?_set, ]
        by_cases c2 : y % 18446744073709551616 = (addr + i) % 18446744073709551616
        · rw [if_pos c2, if_pos (by omega), if_pos (by omega)]
          rfl
        · rw [if_neg c2, if_neg (by
            have hal := hpw.al
            have hn := hpw.nn
            unfold rIn at c hin
            omega)]
          rw [← List.getD_eq_getElem?_getD]
      · rw [if_neg c, if_neg (fun e => c (by rw [e]; exact hin))]
    rw [step]
    by_cases c2 : y % 18446744073709551616 = (addr + i) % 18446744073709551616
    · have e3 : (y - addr) % 18446744073709551616 = i := by omega
      rw [if_pos c2, e3, if_pos (by omega), Int.toNat_natCast, tk _ _ (by omega)]
    · rw [if_neg c2, hb]
      by_cases c3 : (y - addr) % 18446744073709551616 < i
      · rw [if_pos c3, if_pos (by omega), tk _ _ (by omega), tk _ _ (by omega)]
      · rw [if_neg c3, if_neg (by omega)]
def RPutIf (ps ps' : List RPg) (addr : Int) (l : List Int) : Er → Prop
  | none => RPut ps ps' addr l
  | some _ => ps' = ps
theorem rcells_set (p : RPg) (k : Nat) (v : Int) : p.cells.toArray.setIfInBounds (0 + 2 + k * 1) (.int .u8 v) = (RPg.cells { p with data := p.data.set k v }).toArray := by
  apply Array.toList_inj.1
  rw [show 0 + 2 + k * 1 = k + 1 + 1 by omega]
  simp [RPg.cells, List.map_set]
set_option maxHeartbeats 1000000 in
theorem c_rput {m : Nat} {q : Int} {ps : List RPg} {addr perm code : Int} {l : List Int} {a : Option Addr} {c : Nat} (hc0 : code ≠ 0) (hw : rwfs ps) (hs : rSorted ps) (hl : ps.length ≤ 100000) (hn : l.length ≤ 100000) (h0 : 0 ≤ addr) (h1 : addr < 18446744073709551616)
    (hg : Gives F a l) (h : S w0 w (rmemA m q ps * F))
    (k : ∀ ps' w', RPutIf ps ps' addr l (rWrite (rmv ps) perm code addr l) → S w0 w' (rmemA m q ps' * F) → R (.returned (badR (rWrite (rmv ps) perm code addr l))) w') :
    Calls Tryz.prog 54 #[.pointer (some ⟨m, 0, none⟩), .int .u64 addr, .slice a l.length c, .int .i64 perm, .int .i64 code] w R := by
  refine ok_shackleref02_Mem_put _ _ _ _ _ _ _ (al h fun b1 w1 h2 => ?_)
  rw [w64_of (x := (l.length : Int)) (by omega) (by omega)]
  refine c_rget hw hs hl hn h0 h1 (h2.eq (mulL _ _ _)) fun a3 c3 w3 h3 => ?_
  have er : (rRead (rmv ps) perm code addr l.length).1 = rWrite (rmv ps) perm code addr l := by
    unfold rRead rWrite
    cases mBad (rmv ps) perm addr 0 l.length <;> rfl
  rw [er]
  have h3' : S w0 w3 (pts b1 (.cells (badC none).toArray 84 (0, 0)) * (rmemA m q ps * F)) := (h3.drop.eq (by show rmemA m q ps * (pts b1 (.cells (badC none).toArray 84 (0, 0)) * _) = _; rw [mulL])) 
  clear h3
  generalize he : rWrite (rmv ps) perm code addr l = e at *
  cases e with
  | some x =>
    have hx2 : x.2 = code := by
      unfold rWrite at he
      split at he
      · cases he
      · cases he; rfl
    refine ⟨_, _, _, _, _, _, rfl, al h3' fun b9 w4 h4 => sww h4 rfl rfl trivial fun w5 h5 => ⟨_, ld h5 rfl, ?_⟩⟩
    refine b_t (by rw [hx2]; simpa using hc0) ?_
    iterate 3 refine ⟨_, ld h5 rfl, ?_⟩
    refine sww h5 rfl rfl trivial fun w6 h6 => ?_
    iterate 3 refine ⟨_, ld h6 rfl, ?_⟩
    exact k ps w6 rfl h6.drop.drop
  | none =>
    have hok : ∀ j : Nat, j < l.length → (rmv ps).ok perm (addr + j) = true := fun j hj => by
      unfold rWrite at he
      split at he
      · rename_i hb; exact mBad_none l.length 0 hb j (by omega) (by omega)
      · cases he
    refine ⟨_, _, _, _, _, _, rfl, al h3' fun b9 w4 h4 => sww h4 rfl rfl trivial fun w5 h5 => ⟨_, ld h5 rfl, ?_⟩⟩
    refine b_f rfl ?_
    refine ⟨fun y w' => ∃ (i : Nat) (ps' : List RPg), y = i ∧ i ≤ l.length ∧ RPut ps ps' addr (l.take i) ∧ S w0 w' (rmemA m q ps' * (pts b9 (.cells (badC none).toArray 84 (0, 0)) * (pts b1 (.cells (badC none).toArray 84 (0, 0)) * F))), fun y _ => (l.length - y).toNat,
      ⟨0, ps, rfl, by omega, RPut.nil hw, h5.eq (by show pts b9 (.cells (badC none).toArray 84 (0, 0)) * _ = _; ac_rfl)⟩, ?_⟩
    rintro _ y w6 ⟨i, ps', rfl, hi, hp, h6⟩
    refine dc (fun hlt => ?_) (fun hlt => ?_)
    · have hi' : i < l.length := by omega
      have hs' := hp.same.sorted hs
      have hln := hp.same.length
      refine dr h6 fun w7 h7 => ?_
      obtain ⟨a8, c8, h8⟩ := rm_open h7
      refine ⟨_, _, _, ld h8 rfl, ?_⟩
      obtain ⟨ad, rfl, hb⟩ := hg w7 (sat_drop (sat_drop (sat_drop h7.sat))) i hi'
      have hbv : w7.cell? (ad.add ((i : Int).toNat * 1)) = some (.int .u8 (l.getD i 0)) := by
        rw [Int.toNat_natCast, Nat.mul_one]
        exact hb
      refine ix_mk (by omega) (by omega) ⟨_, hbv, ?_⟩
      have ea : IntKind.u64.wrap (addr + IntKind.u64.wrap (i : Int)) = (addr + i) % 18446744073709551616 := by rw [w64_of (x := (i : Int)) (by omega) (by omega), w64]
      rw [ea]
      refine c_rfind hp.wf hs' (by omega) (by omega) (by omega) h7 ?_ ?_
      · intro ix p hpx hin
        have hlx := (List.getElem?_eq_some_iff.1 hpx).1
        have hpl := (hp.wf p (List.mem_of_getElem? hpx)).len
        refine ⟨_, rfl, _, _, _, ld h8 rfl, rfl, rfl, ix_mk (by omega) (by omega) ⟨rfl, _, hbv, rfl, ?_⟩⟩
        obtain ⟨ad2, rfl, hc1, hc2⟩ := rm_rd h8 hpx
        refine ix_mk (by omega) (by omega) ⟨_, by rw [Int.toNat_natCast]; exact hc1, nc_mk ⟨⟨?_, ?_⟩, ?_⟩⟩
        · rw [tmod_pos (by omega)]; omega
        · rw [tmod_pos (by omega)]; omega
        rw [tmod_pos (x := (addr + i) % 18446744073709551616) (k := 4096) (by omega)]
        obtain ⟨Gx, hG, hGs⟩ := rps_focus hpx
        have h9 : S w0 w7 (pts p.blk (.cells p.cells.toArray 131 (0, 0)) * (pts m (.cells #[.int .i64 q, .slice (some ad2) ps'.length c8] 124 (0, 0)) * (slA 132 (rptrs ps') (some ad2) ps'.length c8 * (Gx * (pts b9 (.cells (badC none).toArray 84 (0, 0)) * (pts b1 (.cells (badC none).toArray 84 (0, 0)) * F)))))) := h8.eq (by rw [hG]; unfold rpA; ac_rfl)
        refine st h9 ?_ fun w10 h10 => ?_
        · have : p.cells.toArray.size = 4098 := by simp [RPg.cells, hpl]
          rw [this, Nat.blt_eq]
          omega
        rw [rcells_set] at h10
        rw [wi64 (x := (i : Int) + 1) (by omega) (by omega)]
        refine ⟨⟨i + 1, ps'.set ix { p with data := p.data.set ((addr + i) % 18446744073709551616 % 4096).toNat (l.getD i 0) }, by omega, by omega, hp.step hs' hi' hn hpx hin, ?_⟩, by simp only []; omega⟩
        have e5 : rptrs (ps'.set ix { p with data := p.data.set ((addr + i) % 18446744073709551616 % 4096).toNat (l.getD i 0) }) = rptrs ps' := by
          unfold rptrs
          rw [List.map_set]
          exact set_same (by simp [hpx])
        refine rm_shut (a := some ad2) (c := c8) (n := ps'.length) ?_
        rw [e5, hGs]
        exact h10.eq (by unfold rpA; ac_rfl)
      · intro hno
        exfalso
        have := hok i hi'
        rw [← hp.ok] at this
        have e9 : (rmv ps').ok perm (addr + i) = (match rLook ps' ((addr + i) % 18446744073709551616) with | some g => bAnd .i64 g.perm perm == perm | none => false) := rfl
        rw [e9, rLook_none hno] at this
        cases this
    · obtain rfl : i = l.length := by omega
      rw [List.take_length] at hp
      refine sww (h6.eq (show _ = pts b1 (.cells (badC none).toArray 84 (0, 0)) * (pts b9 (.cells (badC none).toArray 84 (0, 0)) * (rmemA m q ps' * F)) by ac_rfl)) rfl rfl trivial fun w7 h7 => ?_
      iterate 3 refine ⟨_, ld h7 rfl, ?_⟩
      exact k ps' w7 hp h7.drop.drop
end Go.Sk
