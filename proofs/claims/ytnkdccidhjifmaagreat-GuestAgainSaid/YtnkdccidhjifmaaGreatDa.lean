/- Contracts of the layer exec (seat Z): memory, operands. -/
import Derived.Test.YtnkdccidhjifmaaGreatCz
import Derived.Test.YtnkdccidhjifmaaGreatCw
set_option linter.unusedVariables false
set_option linter.unusedSimpArgs false
namespace Go.Sk
open Go.RowKit Go.Proofs
variable {w0 w : World} {F G : Asrt} {R : Ending → World → Prop}
/-! ### Errors -/
abbrev Er := Option (Int × Int)
def errA (e : Er) (v : Value) : Asrt := match e with
  | none => pur (v = .nilIface)
  | some (at', code) => ex fun b : Nat => pur (v = .iface 90 (.pointer (some ⟨b, 0, none⟩))) * pts b (.cells #[.int .u64 at', .iface 37 (.int .i64 code)] 92 (0, 0))
theorem errA_nil : errA none .nilIface = emp := pur_true rfl
theorem err_nil (h : S w0 w F) : S w0 w (errA none .nilIface * F) := h.eq (by rw [errA_nil, emp_mul])
theorem err_some {b : Nat} {a c : Int} (h : S w0 w (pts b (.cells #[.int .u64 a, .iface 37 (.int .i64 c)] 92 (0, 0)) * F)) : S w0 w (errA (some (a, c)) (.iface 90 (.pointer (some ⟨b, 0, none⟩))) * F) :=
  S.exm.2 ⟨b, by rw [mulA]; exact S.pur.2 ⟨rfl, h⟩⟩
theorem nq_err {e : Er} {v : Value} {K : Bool → Prop} (h : S w0 w (errA e v * F)) (k : K e.isNone) : nilQ v K := by
  cases e with
  | none => obtain ⟨rfl, _⟩ := S.pur.1 h; exact nq_nil k
  | some x =>
    obtain ⟨b, h⟩ := S.exm.1 h
    rw [mulA] at h
    obtain ⟨rfl, _⟩ := S.pur.1 h
    exact nq_if k
theorem err_none {v : Value} (h : S w0 w (errA none v * F)) : v = .nilIface ∧ S w0 w F := S.pur.1 h
/-! ### A memory as one sees it -/
structure Mv where
  ok : Int → Int → Bool
  byte : Int → Int
def mv (ps : List Pg) : Mv := ⟨fun p x => match pgFind ps (pg x) with | some q => bAnd .i64 q.perm p == p | none => false, mByte ps⟩
theorem mv_ok {ps : List Pg} {p x : Int} : (mv ps).ok p x = true ↔ mOk ps p x := by
  unfold mv mOk
  simp only []
  cases pgFind ps (pg x) with
  | none => simp
  | some q => simp
def mBad (M : Mv) (perm addr : Int) : Nat → Nat → Option Nat
  | _, 0 => none
  | i, n + 1 => if M.ok perm (addr + i) = true then mBad M perm addr (i + 1) n else some i
theorem mBad_all {M : Mv} {perm addr : Int} : ∀ (n i : Nat), (∀ j : Nat, i ≤ j → j < i + n → M.ok perm (addr + j) = true) → mBad M perm addr i n = none
  | 0, _, _ => rfl
  | n + 1, i, h => by
    rw [mBad, if_pos (h i (Nat.le_refl _) (by omega))]
    exact mBad_all n (i + 1) fun j h1 h2 => h j (by omega) (by omega)
theorem mBad_some {M : Mv} {perm addr : Int} {k : Nat} (hk : M.ok perm (addr + k) ≠ true) : ∀ (n i : Nat), i ≤ k → k < i + n → (∀ j : Nat, i ≤ j → j < k → M.ok perm (addr + j) = true) → mBad M perm addr i n = some k
  | 0, i, h0, h1, _ => by omega
  | n + 1, i, h0, h1, h => by
    rw [mBad]
    by_cases hik : i = k
    · subst hik; rw [if_neg hk]
    · rw [if_pos (h i (Nat.le_refl _) (by omega))]
      exact mBad_some hk n (i + 1) (by omega) (by omega) fun j h1 h2 => h j (by omega) h2
def mList (M : Mv) (addr : Int) (n : Nat) : List Int := (List.range n).map fun (i : Nat) => M.byte (addr + (i : Int))
def rRead (M : Mv) (perm code addr : Int) (n : Nat) : Er × List Int := match mBad M perm addr 0 n with
  | none => (none, mList M addr n)
  | some i => (some ((addr + i) % 18446744073709551616, code), [])
def rWrite (M : Mv) (perm code addr : Int) (l : List Int) : Er := match mBad M perm addr 0 l.length with
  | none => none
  | some i => some ((addr + i) % 18446744073709551616, code)
theorem c_getE {m r : Nat} {q : Int} {ps : List Pg} {addr perm code : Int} {n : Nat} (hw : wfs ps) (hn : n ≤ 100000) (h : S w0 w (memA m r q ps * F))
    (k : ∀ v a c w', S w0 w' (errA (rRead (mv ps) perm code addr n).1 v * (memA m r q ps * (slA 5 (u8s (rRead (mv ps) perm code addr n).2) a (rRead (mv ps) perm code addr n).2.length c * F))) →
      R (.returned (.tuple #[.slice a (rRead (mv ps) perm code addr n).2.length c, v])) w') :
    Calls Tryz.prog 43 #[.pointer (some ⟨m, 0, none⟩), .int .u64 addr, .int .u64 (n : Int), .int .i64 perm, .int .i64 code] w R := by
  refine c_get hw hn h ?_ ?_
  · intro hall a c w' h'
    have e : rRead (mv ps) perm code addr n = (none, mList (mv ps) addr n) := by
      unfold rRead
      rw [mBad_all n 0 fun j _ hj => mv_ok.2 (hall j (by omega))]
    rw [e] at k
    have hl : (mList (mv ps) addr n).length = n := by simp [mList]
    simp only [hl] at k
    exact k .nilIface a c w' (err_nil h')
  · intro i hi hall hbad b a c w' h'
    have e : rRead (mv ps) perm code addr n = (some ((addr + i) % 18446744073709551616, code), []) := by
      unfold rRead
      rw [mBad_some (k := i) (fun hk => hbad (mv_ok.1 hk)) n 0 (by omega) (by omega) fun j _ hj => mv_ok.2 (hall j hj)]
    rw [e] at k
    exact k _ a c w' (err_some h')
theorem c_Read {m r : Nat} {q : Int} {ps : List Pg} {addr : Int} {n : Nat} (hw : wfs ps) (hn : n ≤ 100000) (h : S w0 w (memA m r q ps * F))
    (k : ∀ v a c w', S w0 w' (errA (rRead (mv ps) 4 10 addr n).1 v * (memA m r q ps * (slA 5 (u8s (rRead (mv ps) 4 10 addr n).2) a (rRead (mv ps) 4 10 addr n).2.length c * F))) →
      R (.returned (.tuple #[.slice a (rRead (mv ps) 4 10 addr n).2.length c, v])) w') :
    Calls Tryz.prog 29 #[.pointer (some ⟨m, 0, none⟩), .int .u64 addr, .int .u64 (n : Int)] w R :=
  ok_vmem_Mem_Read _ _ _ (c_getE hw hn h fun v a c w' h' => ⟨_, _, _, _, rfl, k v a c w' h'⟩)
def ldF : List Int → Nat → Int → Int
  | [], _, v => v
  | x :: l, i, v => ldF l (i + 1) (bOr .u64 v (shlI .u64 (IntKind.u64.wrap x) (8 * (i : Int))))
def rLoad (M : Mv) (a : Int) (n : Nat) : Er × Int := ((rRead M 4 10 a n).1, if (rRead M 4 10 a n).1.isNone then ldF (rRead M 4 10 a n).2 0 0 else 0)
theorem rRead_len (M : Mv) (p c a : Int) (n : Nat) : (rRead M p c a n).2.length ≤ n := by
  unfold rRead
  split
  · simp [mList]
  · simp
theorem c_load {T : TypeId} {b m r : Nat} {q : Int} {ps : List Pg} {p : Pr} {a : Int} {n : Nat} (hn : n ≤ 8) (hw : wfs ps) (hm : p.m = some ⟨m, 0, none⟩) (h : S w0 w (prA T b p * (memA m r q ps * F)))
    (k : ∀ v w', S w0 w' (errA (rLoad (mv ps) a n).1 v * (prA T b p * (memA m r q ps * F))) → R (.returned (.tuple #[.int .u64 (rLoad (mv ps) a n).2, v])) w') :
    Calls Tryz.prog 100 #[.pointer (some ⟨b, 0, none⟩), .int .u64 a, .int .i64 (n : Int)] w R := by
  refine ok_exec_processor_load _ _ _ ?_
  obtain ⟨z, ho⟩ := pr_open h
  refine ⟨_, ld ho rfl, ?_⟩
  rw [hm, w64_of (x := (n : Int)) (by omega) (by omega)]
  refine c_Read hw (by omega) (h.eq (mulL _ _ _)) fun v a' c w1 h1 => ⟨_, _, _, _, rfl, nq_err h1 ?_⟩
  unfold rLoad at k
  have hl := rRead_len (mv ps) 4 10 a n
  generalize rRead (mv ps) 4 10 a n = e at *
  cases he : e.1 with
  | some x =>
    rw [he] at k h1
    exact b_t rfl (k v w1 (h1.eq (show _ = slA 5 (u8s e.2) a' e.2.length c * _ by ac_rfl)).drop)
  | none =>
    rw [he] at k h1
    obtain ⟨rfl, h2⟩ := err_none h1
    refine b_f rfl ?_
    have h3 : S w0 w1 (slA 5 (u8s e.2) a' e.2.length c * (prA T b p * (memA m r q ps * F))) := h2.eq (by ac_rfl)
    refine ⟨fun y i w' => ∃ j : Nat, i = j ∧ j ≤ e.2.length ∧ ldF e.2 0 0 = ldF (e.2.drop j) j y ∧ w' = w1, fun _ i _ => (e.2.length - i).toNat, ⟨0, rfl, by omega, rfl, rfl⟩, ?_⟩
    rintro _ y i w2 ⟨j, rfl, hj, hf, rfl⟩
    refine dc (fun hlt => ?_) (fun hlt => ?_)
    · have hj' : j < e.2.length := by omega
      obtain ⟨ad, rfl, hc⟩ := slA_rd h3 (i := j) (by rw [u8s_length]; exact hj')
      refine ix_mk (by omega) (by omega) ⟨e.2[j], ?_, ?_⟩
      · rw [Int.toNat_natCast, Nat.mul_one, hc]
        simp [u8s, hj']
      · rw [wi64 (x := 8 * (j : Int)) (by omega) (by omega), wi64 (x := (j : Int) + 1) (by omega) (by omega)]
        refine ⟨by omega, ⟨j + 1, by omega, by omega, ?_, rfl⟩, by simp only []; omega⟩
        rw [hf, List.drop_eq_getElem_cons hj', ldF]
    · obtain rfl : j = e.2.length := by omega
      rw [List.drop_length, ldF] at hf
      have := k .nilIface w2 (err_nil h3.drop)
      simp only [Option.isNone, if_true, hf] at this
      exact this
/-! ### value, set -/
def rValue (M : Mv) (p : Pr) (o : Opn) : Er × Int :=
  if o.kind = 1 then (none, bAnd .u64 (p.r.r o.reg.toNat) (maskV o.width))
  else if o.kind = 2 then (none, bAnd .u64 (IntKind.u64.wrap o.imm) (maskV o.width))
  else if o.kind = 3 then rLoad M (mAddr p o) o.width.toNat else (none, 0)
theorem c_value {T : TypeId} {b m r : Nat} {q : Int} {ps : List Pg} {p : Pr} {o : Opn} (ho : o.ok) (hw : wfs ps) (hm : p.m = some ⟨m, 0, none⟩) (h : S w0 w (prA T b p * (memA m r q ps * F)))
    (k : ∀ v w', S w0 w' (errA (rValue (mv ps) p o).1 v * (prA T b p * (memA m r q ps * F))) → R (.returned (.tuple #[.int .u64 (rValue (mv ps) p o).2, v])) w') :
    Calls Tryz.prog 68 #[.pointer (some ⟨b, 0, none⟩), o.val] w R := by
  refine ok_exec_processor_value _ o.cells (al h fun b1 w1 h1 => ⟨_, ld h1 rfl, ?_⟩)
  have hw0 := ho.wr
  obtain ⟨z, h2⟩ := pr_open (h1.eq (mulL _ _ _))
  by_cases c1 : o.kind = 1
  · simp only [rValue, if_pos c1] at k
    refine b_t (by simpa using c1) (dr h2 fun w4 h4 => ⟨_, ld h4 rfl, ⟨ho.r0, ho.r1⟩, _, ld_reg h4 ho.r0 ho.r1, _, ld h4 rfl, c_mask hw0.1 hw0.2 ⟨_, rfl, ?_⟩⟩)
    refine ⟨_, ld h4 rfl, rfl, ⟨ho.r0, ho.r1⟩, rfl, _, ld_reg h4 ho.r0 ho.r1, rfl, ?_⟩
    exact k _ w4 (err_nil ((pr_shut h4).eq (mulL _ _ _)).drop)
  refine b_f (by simpa using c1) ?_
  by_cases c2 : o.kind = 2
  · simp only [rValue, if_neg c1, if_pos c2] at k
    refine b_t (by simpa using c2) (dr h2 fun w4 h4 => ⟨_, ld h4 rfl, _, ld h4 rfl, c_mask hw0.1 hw0.2 ⟨_, rfl, _, ld h4 rfl, rfl, rfl, ?_⟩⟩)
    exact k _ w4 (err_nil ((pr_shut h4).eq (mulL _ _ _)).drop)
  refine b_f (by simpa using c2) ?_
  by_cases c3 : o.kind = 3
  · simp only [rValue, if_neg c1, if_neg c2, if_pos c3] at k
    refine b_t (by simpa using c3) (dr h2 fun w4 h4 => ?_)
    iterate 11 refine ⟨_, ld h4 rfl, ?_⟩
    refine c_addr (o := o) ho h4 fun w5 h5 => ⟨_, rfl, _, ld h5 rfl, rfl, ?_⟩
    have e : o.width = ((o.width.toNat : Nat) : Int) := by omega
    have h6 : S w0 w5 (prA T b p * (memA m r q ps * (pts b1 (.cells o.cells.toArray 61 (0, 0)) * F))) := (pr_shut h5).eq (by ac_rfl)
    show Calls Tryz.prog 100 #[.pointer (some ⟨b, 0, none⟩), .int .u64 (mAddr p o), .int .i64 o.width] w5 _
    rw [e]
    refine c_load (by omega) hw hm h6 fun v w7 h7 => ⟨_, _, rfl, ?_⟩
    exact k v w7 (h7.eq (show _ = pts b1 (.cells o.cells.toArray 61 (0, 0)) * _ by ac_rfl)).drop
  · simp only [rValue, if_neg c1, if_neg c2, if_neg c3] at k
    exact b_f (by simpa using c3) (k _ w1 (err_nil h1.drop))
def rSet (p : Pr) (o : Opn) (v : Int) : Pr :=
  if o.kind = 3 then mStore p (mAddr p o) v o.width.toNat
  else if o.width = 1 then p.set o.reg.toNat (bOr .u64 (bClr .u64 (p.r.r o.reg.toNat) 255) (bAnd .u64 v 255)) else p.set o.reg.toNat (bAnd .u64 v (maskV o.width))
theorem c_setO {T : TypeId} {b : Nat} {p : Pr} {o : Opn} {v : Int} (ho : o.ok) (h : S w0 w (prA T b p * F))
    (k : ∀ w', S w0 w' (prA T b (rSet p o v) * F) → R (.returned (.tuple #[])) w') : Calls Tryz.prog 70 #[.pointer (some ⟨b, 0, none⟩), o.val, .int .u64 v] w R := by
  refine ok_exec_processor_set _ o.cells _ (al h fun b1 w1 h1 => ⟨_, ld h1 rfl, ?_⟩)
  have hw0 := ho.wr
  obtain ⟨z, h2⟩ := pr_open (h1.eq (mulL _ _ _))
  by_cases c1 : o.kind = 3
  · simp only [rSet, if_pos c1] at k
    refine b_t (by simpa using c1) (dr h2 fun w4 h4 => ?_)
    iterate 11 refine ⟨_, ld h4 rfl, ?_⟩
    refine c_addr (o := o) ho h4 fun w5 h5 => ⟨_, rfl, _, ld h5 rfl, rfl, ?_⟩
    have e : o.width = ((o.width.toNat : Nat) : Int) := by omega
    have h6 : S w0 w5 (prA T b p * (pts b1 (.cells o.cells.toArray 61 (0, 0)) * F)) := pr_shut h5
    show Calls Tryz.prog 101 #[.pointer (some ⟨b, 0, none⟩), .int .u64 (mAddr p o), .int .u64 v, .int .i64 o.width] w5 _
    rw [e]
    exact c_store (by omega) h6 fun w7 h7 => ⟨rfl, k w7 (h7.eq (mulL _ _ _)).drop⟩
  refine b_f (by simpa using c1) ⟨_, ld h2 rfl, ?_⟩
  by_cases c2 : o.width = 1
  · simp only [rSet, if_neg c1, if_pos c2] at k
    refine b_t (by simpa using c2) (dr h2 fun w4 h4 => ⟨_, ld h4 rfl, _, ld h4 rfl, ⟨ho.r0, ho.r1⟩, _, ld_reg h4 ho.r0 ho.r1, ⟨ho.r0, ho.r1⟩, ?_⟩)
    exact st_reg h4 ho.r0 ho.r1 fun w5 h5 => k w5 ((pr_shut h5).eq (mulL _ _ _)).drop
  · simp only [rSet, if_neg c1, if_neg c2] at k
    refine b_f (by simpa using c2) (dr h2 fun w4 h4 => ⟨_, ld h4 rfl, _, ld h4 rfl, c_mask hw0.1 hw0.2 ⟨_, rfl, _, ld h4 rfl, rfl, ⟨ho.r0, ho.r1⟩, ?_⟩⟩)
    exact st_reg h4 ho.r0 ho.r1 fun w5 h5 => k w5 ((pr_shut h5).eq (mulL _ _ _)).drop
end Go.Sk
