/- Contracts of the layer guest (seat Z): numbers of memory, a linker by a list. -/
import Derived.Test.YtnkdccidhjifmaaGreatLa
import Derived.Test.YtnkdccidhjifmaaGreatSr
import Derived.Test.YtnkdccidhjifmaaGreatOkGu
set_option linter.unusedVariables false
set_option linter.unusedSimpArgs false
namespace Go.Sk
open Go.RowKit Go.Proofs
variable {w0 w : World} {F G : Asrt} {R : Ending → World → Prop}
variable {T : TypeId} {b m r tb rg : Nat} {q : Int} {ps : List Pg} {p : Pr}
/-! ### Bytes of what is written -/
def Pr.bt (p : Pr) : Prop := ∀ x ∈ p.b, 0 ≤ x ∧ x < 256
theorem bytesLE_B (v : Int) (n : Nat) : ∀ x ∈ bytesLE v n, 0 ≤ x ∧ x < 256 := by
  intro x hx
  obtain ⟨i, _, rfl⟩ := List.mem_map.1 hx
  unfold byteAt
  rw [wi8]
  omega
theorem rSet_bt {p : Pr} {o : Opn} {v : Int} (h : p.bt) : (rSet p o v).bt := by
  unfold rSet
  split
  · exact bytesLE_B _ _
  · split <;> exact h
theorem rBin_bt {p : Pr} {i : Ins} {u v x : Int} (h : p.bt) : (rBin p i u v x).bt := by
  unfold rBin
  split
  · exact rSet_bt h
  split
  · exact rSet_bt h
  split
  · exact h
  split
  · exact rSet_bt h
  split
  · exact rSet_bt h
  split
  · exact rSet_bt h
  split
  · exact h
  · exact rSet_bt (by unfold Pr.bt; rw [mShift_b]; exact h)
theorem rUn_bt {p : Pr} {i : Ins} {u x : Int} (h : p.bt) : (rUn p i u x).bt := by
  unfold rUn
  split
  · exact rSet_bt h
  split
  · exact rSet_bt h
  split
  · exact rSet_bt (p := mSum p u 1 x) h
  split
  · exact rSet_bt (p := mLess p u 1 x) h
  · exact h
theorem rJump_bt {M : Mv} {p : Pr} {o : Opn} (h : p.bt) : (rJump M p o).2.bt := by
  unfold rJump
  split <;> exact h
theorem rFlow_bt {M : Mv} {p : Pr} {i : Ins} (h : p.bt) : (rFlow M p i).2.bt := by
  unfold rFlow
  split
  · show Pr.bt (if _ then _ else _)
    split
    · exact bytesLE_B _ _
    · exact h
  split
  · show Pr.bt (if _ then _ else _)
    split
    · unfold rPop
      split
      · exact h
      · exact rSet_bt h
    · exact h
  split
  · show Pr.bt (if _ then _ else _)
    split
    · exact bytesLE_B _ _
    · exact rJump_bt h
  split
  · exact rJump_bt h
  split
  · split
    · exact rJump_bt h
    · exact h
  split
  · show Pr.bt (if _ then _ else _)
    split <;> exact h
  · exact h
theorem rDo_bt {M : Mv} {p : Pr} {i : Ins} (h : p.bt) : (rDo M p i).2.bt := by
  unfold rDo
  split
  · show Pr.bt (if _ then _ else _)
    split
    · exact rBin_bt h
    · exact h
  split
  · show Pr.bt (if _ then _ else _)
    split
    · exact rUn_bt h
    · exact h
  split
  · show Pr.bt (if _ then _ else _)
    split
    · exact rSet_bt h
    · exact h
  split
  · unfold rMove
    show Pr.bt (if _ then _ else _)
    split
    · exact rSet_bt h
    · exact h
  split
  · exact rSet_bt h
  split
  · exact rSet_bt h
  · exact rFlow_bt h
theorem rStep_bt (M : Mv) (g : Rg) : ∀ x, (rStep M g).2.2.2 = some x → ∀ y ∈ x.2, 0 ≤ y ∧ y < 256 := by
  intro x hx
  unfold rStep rStepL at hx
  split at hx
  · cases hx
  · unfold rStepI at hx
    split at hx
    · cases hx
    · unfold rStepP at hx
      split at hx
      · split at hx
        · cases hx
        · cases hx
          exact rDo_bt (fun y hy => by cases hy)
      · cases hx
def mvPut (M : Mv) : Option (Int × List Int) → Mv
  | none => M
  | some x => ⟨M.ok, over M.byte x.1 x.2⟩
/-! ### Errors -/
abbrev Er2 := Option (Option Int × Int)
def up2 : Er → Er2
  | none => none
  | some x => some (some x.1, x.2)
def errB (e : Er2) (v : Value) : Asrt := match e with
  | none => pur (v = .nilIface)
  | some (none, c) => pur (v = .iface 37 (.int .i64 c))
  | some (some a, c) => errA (some (a, c)) v
theorem errB_up (e : Er) (v : Value) : errB (up2 e) v = errA e v := by
  cases e with
  | none => rfl
  | some x => rfl
theorem errB_nil (h : S w0 w F) : S w0 w (errB none .nilIface * F) := err_nil h
theorem errB_code {c : Int} (h : S w0 w F) : S w0 w (errB (some (none, c)) (.iface 37 (.int .i64 c)) * F) := S.pur.2 ⟨rfl, h⟩
theorem errB_none {v : Value} (h : S w0 w (errB none v * F)) : v = .nilIface ∧ S w0 w F := S.pur.1 h
theorem nq_errB {e : Er2} {v : Value} {K : Bool → Prop} (h : S w0 w (errB e v * F)) (k : K e.isNone) : nilQ v K := by
  cases e with
  | none => obtain ⟨rfl, _⟩ := S.pur.1 h; exact nq_nil k
  | some x =>
    obtain ⟨a, c⟩ := x
    cases a with
    | none => obtain ⟨rfl, _⟩ := S.pur.1 h; exact nq_if k
    | some a => exact nq_err (e := some (a, c)) h k
theorem up2_isNone (e : Er) : (up2 e).isNone = e.isNone := by cases e <;> rfl
/-! ### The run's parts -/
def ev3 (x : Int × Int × Int) : List Value := [.int .u64 x.1, .int .u64 x.2.1, .int .u64 x.2.2]
def evs (l : List (Int × Int × Int)) : List Value := l.flatMap ev3
theorem evs_length (l : List (Int × Int × Int)) : (evs l).length = l.length * 3 := by
  induction l with
  | nil => rfl
  | cons x l ih => simp only [evs, List.flatMap_cons, List.length_append] at ih ⊢; rw [ih]; simp [ev3]; omega
theorem evs_snoc (l : List (Int × Int × Int)) (x : Int × Int × Int) : evs (l ++ [x]) = evs l ++ ev3 x := by simp [evs]
def rnC (m tb rg : Nat) (fuel : Int) (z : Sl3) : Array Value := #[.pointer (some ⟨m, 0, none⟩), .iface 43 (.pointer (some ⟨tb, 0, none⟩)), .pointer (some ⟨rg, 0, none⟩), .int .i64 fuel, .slice z.1 z.2.1 z.2.2]
def runA (b m tb rg : Nat) (fuel : Int) (ev : List (Int × Int × Int)) : Asrt := ex fun z : Sl3 => pts b (.cells (rnC m tb rg fuel z) 107 (0, 0)) * slR 49 3 (evs ev) z.1 z.2.1 z.2.2
theorem run_open {fuel : Int} {ev : List (Int × Int × Int)} (h : S w0 w (runA b m tb rg fuel ev * F)) : ∃ z : Sl3, S w0 w (pts b (.cells (rnC m tb rg fuel z) 107 (0, 0)) * (slR 49 3 (evs ev) z.1 z.2.1 z.2.2 * F)) := by
  obtain ⟨z, h⟩ := S.exm.1 h
  exact ⟨z, by rw [mulA] at h; exact h⟩
theorem run_shut {fuel : Int} {ev : List (Int × Int × Int)} {z : Sl3} (h : S w0 w (pts b (.cells (rnC m tb rg fuel z) 107 (0, 0)) * (slR 49 3 (evs ev) z.1 z.2.1 z.2.2 * F))) : S w0 w (runA b m tb rg fuel ev * F) := S.exm.2 ⟨z, by rw [mulA]; exact h⟩
def rNumM (M : Mv) (a : Int) : Er × Int := ((rRead M 4 10 a 8).1, ldF (rRead M 4 10 a 8).2 0 0)
theorem c_num {fuel a : Int} {z : Sl3} (hw : wfs ps) (h : S w0 w (pts b (.cells (rnC m tb rg fuel z) 107 (0, 0)) * (memA m r q ps * F)))
    (k : ∀ v w', S w0 w' (errA (rNumM (mv ps) a).1 v * (pts b (.cells (rnC m tb rg fuel z) 107 (0, 0)) * (memA m r q ps * F))) → R (.returned (.tuple #[.int .u64 (rNumM (mv ps) a).2, v])) w') :
    Calls Tryz.prog 107 #[.pointer (some ⟨b, 0, none⟩), .int .u64 a] w R := by
  refine ok_guest_run_number _ _ ⟨_, ld h rfl, ?_⟩
  refine c_Read (n := 8) hw (by omega) (h.eq (mulL _ _ _)) fun v a' c w1 h1 => ⟨_, _, _, _, rfl, ?_⟩
  unfold rNumM at k
  have hl := rRead_len (mv ps) 4 10 a 8
  generalize rRead (mv ps) 4 10 a 8 = e at *
  have h3 : S w0 w1 (slA 5 (u8s e.2) a' e.2.length c * (errA e.1 v * (pts b (.cells (rnC m tb rg fuel z) 107 (0, 0)) * (memA m r q ps * F)))) := h1.eq (by ac_rfl)
  refine ⟨fun y i w' => ∃ j : Nat, i = j ∧ j ≤ e.2.length ∧ ldF e.2 0 0 = ldF (e.2.drop j) j y ∧ w' = w1, fun _ i _ => (e.2.length - i).toNat, ⟨0, rfl, by omega, rfl, rfl⟩, ?_⟩
  rintro _ y i w2 ⟨j, rfl, hj, hf, rfl⟩
  refine dc (fun hlt => ?_) (fun hlt => ?_)
  · have hj' : j < e.2.length := by omega
    obtain ⟨ad, rfl, hc⟩ := slA_rd h3 (i := j) (by rw [u8s_length]; exact hj')
    refine ix_mk (by omega) (by omega) ⟨e.2[j], ?_, ?_⟩
    · rw [Int.toNat_natCast, Nat.mul_one, hc]
      simp [u8s, hj']
    · rw [wi64 (x := 8 * (j : Int)) (by omega) (by omega), wi64 (x := (j : Int) + 1) (by omega) (by omega)]
      refine ⟨by omega, ⟨j + 1, by omega, by omega, ?_, rfl⟩, by simp only []; omega⟩
      rw [hf, List.drop_eq_getElem_cons hj', ldF]
  · obtain rfl : j = e.2.length := by omega
    rw [List.drop_length, ldF] at hf
    rw [← hf]
    exact k v w2 h3.drop
def gTwo (M : Mv) (a : Int) : Er × Int × Int :=
  if (rNumM M a).1.isNone = true then ((rNumM M (IntKind.u64.wrap (a + 8))).1, (rNumM M a).2, (rNumM M (IntKind.u64.wrap (a + 8))).2) else ((rNumM M a).1, 0, 0)
theorem c_gtwo {fuel a : Int} {z : Sl3} (hw : wfs ps) (h : S w0 w (pts b (.cells (rnC m tb rg fuel z) 107 (0, 0)) * (memA m r q ps * F)))
    (k : ∀ v w', S w0 w' (errA (gTwo (mv ps) a).1 v * (pts b (.cells (rnC m tb rg fuel z) 107 (0, 0)) * (memA m r q ps * F))) → R (.returned (.tuple #[.int .u64 (gTwo (mv ps) a).2.1, .int .u64 (gTwo (mv ps) a).2.2, v])) w') :
    Calls Tryz.prog 106 #[.pointer (some ⟨b, 0, none⟩), .int .u64 a] w R := by
  refine ok_guest_run_two _ _ (c_num hw h fun v w1 h1 => ⟨_, _, rfl, nq_err h1 ?_⟩)
  unfold gTwo at k
  cases he : (rNumM (mv ps) a).1 with
  | some e =>
    rw [he] at h1
    simp only [he] at k
    exact b_t rfl (k v w1 h1)
  | none =>
    rw [he] at h1
    obtain ⟨rfl, h2⟩ := err_none h1
    simp only [he, Option.isNone, if_true] at k
    exact b_f rfl (c_num hw h2 fun v w3 h3 => ⟨_, _, rfl, k v w3 h3⟩)
/-! ### The linker of the statements -/
def GivesU (F : Asrt) (a : Option Addr) (l : List Int) : Prop := ∀ w, sat w F → ∀ j, j < l.length → ∃ ad, a = some ad ∧ w.cell? (ad.add j) = some (.int .u64 (l.getD j 0))
theorem GivesU.frame {a : Option Addr} {l : List Int} (h : GivesU F a l) (X : Asrt) : GivesU (X * F) a l := fun w hs => h w (sat_drop hs)
theorem GivesU.nil (F : Asrt) (a : Option Addr) : GivesU F a [] := fun _ _ j hj => by simp at hj
def u64v (l : List Int) : List Value := l.map (Value.int .u64)
structure Lk where
  a : Option Addr
  l : List Int
  c : Nat
def tabA (tb : Nat) (L : Lk) (asked : List Int) : Asrt := ex fun z : Sl3 => pts tb (.cells #[.slice L.a L.l.length L.c, .slice z.1 z.2.1 z.2.2] 46 (0, 0)) * slR 22 1 (u64v asked) z.1 z.2.1 z.2.2
theorem tab_open {L : Lk} {asked : List Int} (h : S w0 w (tabA tb L asked * F)) : ∃ (a : Option Addr) (c : Nat), S w0 w (pts tb (.cells #[.slice L.a L.l.length L.c, .slice a asked.length c] 46 (0, 0)) * (slR 22 1 (u64v asked) a asked.length c * F)) := by
  obtain ⟨⟨a, n, c⟩, h⟩ := S.exm.1 h
  rw [mulA] at h
  have h2 : S w0 w (slR 22 1 (u64v asked) a n c * (pts tb (.cells #[.slice L.a L.l.length L.c, .slice a n c] 46 (0, 0)) * F)) := h.eq (mulL _ _ _)
  have hn : n = asked.length := by
    rcases slR_cases h2.sat with ⟨_, rfl, _, hl, _⟩ | ⟨_, _, _, hl, _⟩
    · have : asked = [] := by simpa [u64v] using hl
      rw [this]; rfl
    · simpa [u64v] using hl.symm
  subst hn
  exact ⟨a, c, h⟩
theorem tab_shut {L : Lk} {asked : List Int} {z : Sl3} (h : S w0 w (pts tb (.cells #[.slice L.a L.l.length L.c, .slice z.1 z.2.1 z.2.2] 46 (0, 0)) * (slR 22 1 (u64v asked) z.1 z.2.1 z.2.2 * F))) : S w0 w (tabA tb L asked * F) := S.exm.2 ⟨z, by rw [mulA]; exact h⟩
theorem three_at {A : Asrt} {b : Nat} {x y z : Value} {t : TypeId} {f : Obj → Asrt} (h : S w0 w A) [hA : At A b (.cells #[x, y, z] t (0, 0)) f] : ∀ j u, [x, y, z][j]? = some u → w.cell? ((⟨b, 0, none⟩ : Addr).add j) = some u := by
  intro j u hj
  rcases j with _ | _ | _ | j
  · simp at hj; subst hj; exact ld h (hA := hA) rfl
  · simp at hj; subst hj; exact ld h (hA := hA) rfl
  · simp at hj; subst hj; exact ld h (hA := hA) rfl
  · simp at hj
def lkBind (L : List Int) (o i : Int) : Er2 × Int := if L.length = 0 then (some (none, 18), 0) else (none, L.getD (IntKind.u64.wrap (o + i) % (L.length : Int)).toNat 0)
def lkTls (L : List Int) (o i : Int) : Er2 × Int := if L.length = 0 then (some (none, 21), 0) else (none, IntKind.u64.wrap (L.getD (o % (L.length : Int)).toNat 0 + i))
theorem u44' : Tryz.prog.underlying 44 = some (.slice 22) := u44
theorem c_Bind {L : Lk} {asked : List Int} {o i : Int} (ho : 0 ≤ o) (hL : L.l.length ≤ 9223372036854775807) (hg : GivesU F L.a L.l) (ha : asked.length ≤ 1000000) (h : S w0 w (tabA tb L asked * F))
    (k : ∀ v w', S w0 w' (errB (lkBind L.l o i).1 v * (tabA tb L (asked ++ [1, o, i]) * F)) → R (.returned (.tuple #[.int .u64 (lkBind L.l o i).2, v])) w') :
    Calls Tryz.prog 163 #[.pointer (some ⟨tb, 0, none⟩), .int .u64 o, .int .u64 i] w R := by
  obtain ⟨a, c, h1⟩ := tab_open h
  obtain ⟨inf, hi, hz0, hz1, hz2⟩ := info_parts i22
  refine ok_shacklelaw20_Table_Bind _ _ _ ⟨_, _, _, ld h1 rfl, al h1 fun b2 w2 h2 => ?_⟩
  refine app_slR (xs := [.int .u64 1, .int .u64 o, .int .u64 i]) (m := 3) h2 u44 hi hz0 hz1 hz2 rfl (by decide) (three_at h2) rfl (by intro u hu; simp at hu; rcases hu with rfl | rfl | rfl <;> rfl) (by simp only [maxLen]; omega) (by omega) ?_
  intro a' c' w3 h3
  refine st h3 rfl fun w4 h4 => ⟨_, _, _, ld h4 rfl, ?_⟩
  have fin : ∀ w', S w0 w' (pts b2 (.cells #[.int .u64 1, .int .u64 o, .int .u64 i] 22 (0, 0)) * (pts tb (.cells #[.slice L.a L.l.length L.c, .slice a' (asked.length + 3) c'] 46 (0, 0)) * (slR 22 1 (u64v asked ++ [.int .u64 1, .int .u64 o, .int .u64 i]) a' (asked.length + 3) c' * F))) → S w0 w' (tabA tb L (asked ++ [1, o, i]) * F) := fun w' h' =>
    tab_shut (z := (a', asked.length + 3, c')) (h'.drop.eq (by
      have : u64v (asked ++ [1, o, i]) = u64v asked ++ [.int .u64 1, .int .u64 o, .int .u64 i] := by simp [u64v]
      rw [this]))
  unfold lkBind at k
  by_cases c1 : L.l.length = 0
  · simp only [if_pos c1] at k
    exact b_t (by simp [c1]) (k _ w4 (errB_code (fin w4 h4)))
  · simp only [if_neg c1] at k
    refine b_f (beq_eq_false_iff_ne.2 (by omega)) (dr h4 fun w5 h6 => ⟨_, _, _, ld h6 rfl, _, _, _, ld h6 rfl, ?_, ?_⟩)
    · rw [w64_of (by omega) (by omega)]; omega
    · rw [w64_of (x := (L.l.length : Int)) (by omega) (by omega), tmod_pos (w64_nn _)]
      have hm1 := Int.emod_nonneg (IntKind.u64.wrap (o + i)) (b := (L.l.length : Int)) (by omega)
      have hm2 := Int.emod_lt_of_pos (IntKind.u64.wrap (o + i)) (b := (L.l.length : Int)) (by omega)
      obtain ⟨ad, ha2, hc⟩ := hg w5 (sat_drop (sat_drop (sat_drop h6.sat))) ((IntKind.u64.wrap (o + i)) % (L.l.length : Int)).toNat (by omega)
      rw [ha2]
      exact ix_mk hm1 hm2 ⟨_, by rw [Nat.mul_one]; exact hc, k _ w5 (errB_nil (fin w5 h6))⟩
theorem c_TLS {L : Lk} {asked : List Int} {o i : Int} (ho : 0 ≤ o) (hL : L.l.length ≤ 9223372036854775807) (hg : GivesU F L.a L.l) (ha : asked.length ≤ 1000000) (h : S w0 w (tabA tb L asked * F))
    (k : ∀ v w', S w0 w' (errB (lkTls L.l o i).1 v * (tabA tb L (asked ++ [2, o, i]) * F)) → R (.returned (.tuple #[.int .u64 (lkTls L.l o i).2, v])) w') :
    Calls Tryz.prog 164 #[.pointer (some ⟨tb, 0, none⟩), .int .u64 o, .int .u64 i] w R := by
  obtain ⟨a, c, h1⟩ := tab_open h
  obtain ⟨inf, hi, hz0, hz1, hz2⟩ := info_parts i22
  refine ok_shacklelaw20_Table_TLS _ _ _ ⟨_, _, _, ld h1 rfl, al h1 fun b2 w2 h2 => ?_⟩
  refine app_slR (xs := [.int .u64 2, .int .u64 o, .int .u64 i]) (m := 3) h2 u44 hi hz0 hz1 hz2 rfl (by decide) (three_at h2) rfl (by intro u hu; simp at hu; rcases hu with rfl | rfl | rfl <;> rfl) (by simp only [maxLen]; omega) (by omega) ?_
  intro a' c' w3 h3
  refine st h3 rfl fun w4 h4 => ⟨_, _, _, ld h4 rfl, ?_⟩
  have fin : ∀ w', S w0 w' (pts b2 (.cells #[.int .u64 2, .int .u64 o, .int .u64 i] 22 (0, 0)) * (pts tb (.cells #[.slice L.a L.l.length L.c, .slice a' (asked.length + 3) c'] 46 (0, 0)) * (slR 22 1 (u64v asked ++ [.int .u64 2, .int .u64 o, .int .u64 i]) a' (asked.length + 3) c' * F))) → S w0 w' (tabA tb L (asked ++ [2, o, i]) * F) := fun w' h' =>
    tab_shut (z := (a', asked.length + 3, c')) (h'.drop.eq (by
      have : u64v (asked ++ [2, o, i]) = u64v asked ++ [.int .u64 2, .int .u64 o, .int .u64 i] := by simp [u64v]
      rw [this]))
  unfold lkTls at k
  by_cases c1 : L.l.length = 0
  · simp only [if_pos c1] at k
    exact b_t (by simp [c1]) (k _ w4 (errB_code (fin w4 h4)))
  · simp only [if_neg c1] at k
    refine b_f (beq_eq_false_iff_ne.2 (by omega)) (dr h4 fun w5 h6 => ⟨_, _, _, ld h6 rfl, _, _, _, ld h6 rfl, ?_, ?_⟩)
    · rw [w64_of (by omega) (by omega)]; omega
    · rw [w64_of (x := (L.l.length : Int)) (by omega) (by omega), tmod_pos ho]
      have hm1 := Int.emod_nonneg (o) (b := (L.l.length : Int)) (by omega)
      have hm2 := Int.emod_lt_of_pos (o) (b := (L.l.length : Int)) (by omega)
      obtain ⟨ad, ha2, hc⟩ := hg w5 (sat_drop (sat_drop (sat_drop h6.sat))) ((o) % (L.l.length : Int)).toNat (by omega)
      rw [ha2]
      exact ix_mk hm1 hm2 ⟨_, by rw [Nat.mul_one]; exact hc, k _ w5 (errB_nil (fin w5 h6))⟩
end Go.Sk
