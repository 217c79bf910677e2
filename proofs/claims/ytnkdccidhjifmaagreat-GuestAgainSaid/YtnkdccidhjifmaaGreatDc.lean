/- Contracts of the layer exec (seat Z): flow, do. -/
import Derived.Test.YtnkdccidhjifmaaGreatDb
set_option linter.unusedVariables false
set_option linter.unusedSimpArgs false
namespace Go.Sk
open Go.RowKit Go.Proofs
variable {w0 w : World} {F G : Asrt} {R : Ending → World → Prop}
variable {T : TypeId} {b m r : Nat} {q : Int} {ps : List Pg} {p : Pr}
def Pr.jmp (p : Pr) (v : Int) : Pr := { p with next := v }
def rPop (p : Pr) (i : Ins) (v : Int) : Pr :=
  if i.op = 23 then (p.set 4 (IntKind.u64.wrap (p.r.r 4 + 8))).jmp v else rSet (p.set 4 (IntKind.u64.wrap (p.r.r 4 + 8))) i.a v
def rLeave (p : Pr) (v : Int) : Pr := (p.set 4 (IntKind.u64.wrap (p.r.r 5 + 8))).set 5 v
def rFlow (M : Mv) (p : Pr) (i : Ins) : Er × Pr :=
  if i.op = 18 then ((rValue M p i.a).1, if (rValue M p i.a).1.isNone = true then rPush p (rValue M p i.a).2 else p)
  else if (i.op == 19 || i.op == 23) = true then ((rLoad M (p.r.r 4) 8).1, if (rLoad M (p.r.r 4) 8).1.isNone = true then rPop p i (rLoad M (p.r.r 4) 8).2 else p)
  else if i.op = 20 then ((rJump M p i.a).1, if (rJump M p i.a).1.isNone = true then rPush (rJump M p i.a).2 p.next else (rJump M p i.a).2)
  else if i.op = 21 then rJump M p i.a
  else if i.op = 22 then (if tst p.r i.cond = true then rJump M p i.a else (none, p))
  else if i.op = 28 then ((rLoad M (p.r.r 5) 8).1, if (rLoad M (p.r.r 5) 8).1.isNone = true then rLeave p (rLoad M (p.r.r 5) 8).2 else p)
  else (none, p)
theorem jEq {c d : Bool} {w : World} {K : Bool → World → Prop} (h : K (c || d) w) : ∃ J : Bool → World → Prop, (if c = true then J c w else J d w) ∧ ∀ (_ : Env) (y : Bool) (w' : World), J y w' → K y w' := jCase h
theorem c_flow {i : Ins} (ho : i.ok) (hw : wfs ps) (hm : p.m = some ⟨m, 0, none⟩) (h : S w0 w (prA T b p * (memA m r q ps * F)))
    (k : ∀ v w', S w0 w' (errA (rFlow (mv ps) p i).1 v * (prA T b (rFlow (mv ps) p i).2 * (memA m r q ps * F))) → R (.returned v) w') :
    Calls Tryz.prog 75 #[.pointer (some ⟨b, 0, none⟩), i.val] w R := by
  refine ok_exec_processor_flow _ i.cells (al h fun b1 w1 h1' => ?_)
  have h1 : S w0 w1 (prA T b p * (memA m r q ps * (pts b1 (.cells i.cells.toArray 65 (0, 0)) * F))) := h1'.eq (by ac_rfl)
  have fin : ∀ (e : Er) (v : Value) (p' : Pr) (w' : World), S w0 w' (errA e v * (prA T b p' * (memA m r q ps * (pts b1 (.cells i.cells.toArray 65 (0, 0)) * F)))) → S w0 w' (errA e v * (prA T b p' * (memA m r q ps * F))) := fun e v p' w' h' =>
    (h'.eq (show _ = pts b1 (.cells i.cells.toArray 65 (0, 0)) * _ by ac_rfl)).drop
  refine ⟨_, ld h1 rfl, ?_⟩
  refine ⟨fun w' => R (.returned .nilIface) w', ?_, fun _ w' h' => h'⟩
  unfold rFlow at k
  by_cases c1 : i.op = 18
  · simp only [if_pos c1] at k
    refine b_t (by simpa using c1) ?_
    iterate 10 refine ⟨_, ld h1 rfl, ?_⟩
    refine c_value (o := i.a) ho.a hw hm h1 fun v w2 h2 => ⟨_, _, rfl, nq_err h2 ?_⟩
    generalize rValue (mv ps) p i.a = e at *
    cases he : e.1 with
    | some x =>
      rw [he] at h2
      simp only [he] at k
      exact b_t rfl (k v w2 (fin _ v p w2 h2))
    | none =>
      rw [he] at h2
      obtain ⟨rfl, h3⟩ := err_none h2
      simp only [he, Option.isNone, if_true] at k
      exact b_f rfl (c_push h3 fun w4 h4 => ⟨rfl, k _ w4 (fin _ _ _ w4 (err_nil h4))⟩)
  simp only [if_neg c1] at k
  refine b_f (by simpa using c1) (jEq ?_)
  by_cases c2 : (i.op == 19 || i.op == 23) = true
  · simp only [if_pos c2] at k
    obtain ⟨z, h2⟩ := pr_open h1
    refine b_t c2 ⟨_, ld h2 rfl, ?_⟩
    refine c_load (n := 8) (by omega) hw hm h1 fun v w3 h3 => ⟨_, _, rfl, nq_err h3 ?_⟩
    generalize rLoad (mv ps) (p.r.r 4) 8 = e at *
    cases he : e.1 with
    | some x =>
      rw [he] at h3
      simp only [he] at k
      exact b_t rfl (k v w3 (fin _ v p w3 h3))
    | none =>
      rw [he] at h3
      obtain ⟨rfl, h4⟩ := err_none h3
      simp only [he, Option.isNone, if_true] at k
      obtain ⟨z, h5⟩ := pr_open h4
      refine b_f rfl (dr h5 fun w6 h6 => ⟨_, ld h6 rfl, st h6 rfl fun w7 h7 => ⟨_, ld h7 rfl, ?_⟩⟩)
      have h8 : S w0 w7 (pts b (.cells ((p.set 4 (IntKind.u64.wrap (p.r.r 4 + 8))).cells z).toArray T (0, 0)) * _) := h7
      unfold rPop at k
      by_cases c3 : i.op = 23
      · simp only [if_pos c3] at k
        exact b_t (by simpa using c3) (st h8 rfl fun w9 h9 => k _ w9 (fin _ _ _ w9 (err_nil (pr_shut (p := (p.set 4 (IntKind.u64.wrap (p.r.r 4 + 8))).jmp e.2) h9))))
      · simp only [if_neg c3] at k
        refine b_f (by simpa using c3) ?_
        have h9 := pr_shut h8
        iterate 10 refine ⟨_, ld h9 rfl, ?_⟩
        exact c_setO (o := i.a) ho.a h9 fun w10 h10 => ⟨rfl, k _ w10 (fin _ _ _ w10 (err_nil h10))⟩
  simp only [if_neg c2] at k
  refine b_f (nt c2) ?_
  by_cases c3 : i.op = 20
  · simp only [if_pos c3] at k
    obtain ⟨z, h2⟩ := pr_open h1
    refine b_t (by simpa using c3) ?_
    iterate 11 refine ⟨_, ld h2 rfl, ?_⟩
    refine c_jump (o := i.a) ho.a hw hm h1 fun v w3 h3 => ⟨_, rfl, nq_err h3 ?_⟩
    generalize rJump (mv ps) p i.a = e at *
    cases he : e.1 with
    | some x =>
      rw [he] at h3
      simp only [he] at k
      exact b_t rfl (k v w3 (fin _ v _ w3 h3))
    | none =>
      rw [he] at h3
      obtain ⟨rfl, h4⟩ := err_none h3
      simp only [he, Option.isNone, if_true] at k
      exact b_f rfl (c_push h4 fun w5 h5 => ⟨rfl, k _ w5 (fin _ _ _ w5 (err_nil h5))⟩)
  simp only [if_neg c3] at k
  refine b_f (by simpa using c3) ?_
  by_cases c4 : i.op = 21
  · simp only [if_pos c4] at k
    refine b_t (by simpa using c4) ?_
    iterate 10 refine ⟨_, ld h1 rfl, ?_⟩
    exact c_jump (o := i.a) ho.a hw hm h1 fun v w3 h3 => ⟨_, rfl, k v w3 (fin _ v _ w3 h3)⟩
  simp only [if_neg c4] at k
  refine b_f (by simpa using c4) ?_
  by_cases c5 : i.op = 22
  · simp only [if_pos c5] at k
    refine b_t (by simpa using c5) (dr h1 fun w2 h2 => ?_)
    obtain ⟨z, h3⟩ := pr_open h2
    iterate 24 refine ⟨_, ld h3 rfl, ?_⟩
    refine c_Test (g := p.r) h3 fun w4 h4' => ⟨_, rfl, ?_⟩
    have h4 := pr_shut h4'
    by_cases c6 : tst p.r i.cond = true
    · simp only [if_pos c6] at k
      refine b_t c6 ?_
      iterate 10 refine ⟨_, ld h4 rfl, ?_⟩
      exact c_jump (o := i.a) ho.a hw hm h4 fun v w3 h3 => ⟨_, rfl, k v w3 (fin _ v _ w3 h3)⟩
    · simp only [if_neg c6] at k
      exact b_f (nt c6) (k _ w4 (fin _ _ _ w4 (err_nil h4)))
  simp only [if_neg c5] at k
  refine b_f (by simpa using c5) ?_
  by_cases c6 : i.op = 28
  · simp only [if_pos c6] at k
    obtain ⟨z, h2⟩ := pr_open h1
    refine b_t (by simpa using c6) ⟨_, ld h2 rfl, ?_⟩
    refine c_load (n := 8) (by omega) hw hm h1 fun v w3 h3 => ⟨_, _, rfl, nq_err h3 ?_⟩
    generalize rLoad (mv ps) (p.r.r 5) 8 = e at *
    cases he : e.1 with
    | some x =>
      rw [he] at h3
      simp only [he] at k
      exact b_t rfl (k v w3 (fin _ v p w3 h3))
    | none =>
      rw [he] at h3
      obtain ⟨rfl, h4⟩ := err_none h3
      simp only [he, Option.isNone, if_true] at k
      obtain ⟨z, h5⟩ := pr_open h4
      refine b_f rfl (dr h5 fun w6 h6 => ⟨_, ld h6 rfl, st h6 rfl fun w7 h7 => st h7 rfl fun w8 h8 => ?_⟩)
      exact k _ w8 (fin _ _ _ w8 (err_nil (pr_shut (p := rLeave p e.2) h8)))
  simp only [if_neg c6] at k
  exact b_f (by simpa using c6) (k _ w1 (fin _ _ _ w1 (err_nil h1)))
def isBin (o : Int) : Bool := o == 1 || o == 4 || o == 6 || o == 3 || o == 2 || o == 5 || o == 7 || o == 15 || o == 16 || o == 17
def isUn (o : Int) : Bool := o == 10 || o == 11 || o == 12 || o == 13
def isMv (o : Int) : Bool := o == 8 || o == 26 || o == 27 || o == 25
def rThird (M : Mv) (p : Pr) (i : Ins) : Er × Int := if (i.c.kind != 0 && (rTwo M p i).1.isNone) = true then rValue M p i.c else ((rTwo M p i).1, (rTwo M p i).2.1)
def rDo (M : Mv) (p : Pr) (i : Ins) : Er × Pr :=
  if isBin i.op = true then ((rTwo M p i).1, if (rTwo M p i).1.isNone = true then rBin p i (rTwo M p i).2.1 (rTwo M p i).2.2 i.a.width else p)
  else if isUn i.op = true then ((rValue M p i.a).1, if (rValue M p i.a).1.isNone = true then rUn p i (rValue M p i.a).2 i.a.width else p)
  else if i.op = 14 then ((rThird M p i).1, if (rThird M p i).1.isNone = true then rSet (mTimes p (rThird M p i).2 (rTwo M p i).2.2 i.a.width) i.a (mTimesV (rThird M p i).2 (rTwo M p i).2.2 i.a.width) else p)
  else if isMv i.op = true then rMove M p i
  else if i.op = 9 then (none, rSet p i.a (bAnd .u64 (mAddr p i.b) (maskV i.a.width)))
  else if i.op = 24 then (none, rSet p i.a (if tst p.r i.cond = true then 1 else 0))
  else rFlow M p i
theorem c_do {i : Ins} (ho : i.ok) (hx : (isBin i.op || isUn i.op) = true → 1 ≤ i.a.width) (hw : wfs ps) (hm : p.m = some ⟨m, 0, none⟩) (h : S w0 w (prA T b p * (memA m r q ps * F)))
    (k : ∀ v w', S w0 w' (errA (rDo (mv ps) p i).1 v * (prA T b (rDo (mv ps) p i).2 * (memA m r q ps * F))) → R (.returned v) w') :
    Calls Tryz.prog 39 #[.pointer (some ⟨b, 0, none⟩), i.val] w R := by
  refine ok_exec_processor_do _ i.cells (al h fun b1 w1 h1' => ?_)
  have h1 : S w0 w1 (prA T b p * (memA m r q ps * (pts b1 (.cells i.cells.toArray 65 (0, 0)) * F))) := h1'.eq (by ac_rfl)
  have fin : ∀ (e : Er) (v : Value) (p' : Pr) (w' : World), S w0 w' (errA e v * (prA T b p' * (memA m r q ps * (pts b1 (.cells i.cells.toArray 65 (0, 0)) * F)))) → S w0 w' (errA e v * (prA T b p' * (memA m r q ps * F))) := fun e v p' w' h' =>
    (h'.eq (show _ = pts b1 (.cells i.cells.toArray 65 (0, 0)) * _ by ac_rfl)).drop
  have wa := ho.a.wr
  iterate 2 refine ⟨_, ld h1 rfl, ?_⟩
  refine ⟨fun w' => R (.returned .nilIface) w', ?_, fun _ w' h' => h'⟩
  refine ⟨fun y w' => y = isBin i.op ∧ w' = w1, ?_, ?_⟩
  · unfold isBin
    generalize i.op = o
    iterate 9 (split; · exact ⟨by simp_all, rfl⟩)
    exact ⟨by simp_all, rfl⟩
  rintro _ y w2 ⟨rfl, rfl⟩
  unfold rDo at k
  by_cases c1 : isBin i.op = true
  · simp only [if_pos c1] at k
    have hx1 := hx (by rw [c1]; rfl)
    refine b_t c1 ?_
    iterate 33 refine ⟨_, ld h1 rfl, ?_⟩
    refine c_two (i := i) ho hw hm h1 fun v w3 h3 => ⟨_, _, _, rfl, nq_err h3 ?_⟩
    generalize rTwo (mv ps) p i = e at *
    cases he : e.1 with
    | some x =>
      rw [he] at h3
      simp only [he] at k
      exact b_t rfl (k v w3 (fin _ v p w3 h3))
    | none =>
      rw [he] at h3
      obtain ⟨rfl, h4⟩ := err_none h3
      simp only [he, Option.isNone, if_true] at k
      refine b_f rfl ?_
      iterate 33 refine ⟨_, ld h4 rfl, ?_⟩
      exact c_binary (i := i) ho.a hx1 wa.2 h4 fun w5 h5 => ⟨rfl, k _ w5 (fin _ _ _ w5 (err_nil h5))⟩
  simp only [if_neg c1] at k
  refine b_f (nt c1) ?_
  refine ⟨fun y w' => y = isUn i.op ∧ w' = w2, ?_, ?_⟩
  · unfold isUn
    generalize i.op = o
    iterate 3 (split; · exact ⟨by simp_all, rfl⟩)
    exact ⟨by simp_all, rfl⟩
  rintro _ y w3 ⟨rfl, rfl⟩
  by_cases c2 : isUn i.op = true
  · simp only [if_pos c2] at k
    have hx1 := hx (by rw [c2, Bool.or_true])
    refine b_t c2 ?_
    iterate 10 refine ⟨_, ld h1 rfl, ?_⟩
    refine c_value (o := i.a) ho.a hw hm h1 fun v w4 h4 => ⟨_, _, rfl, nq_err h4 ?_⟩
    generalize rValue (mv ps) p i.a = e at *
    cases he : e.1 with
    | some x =>
      rw [he] at h4
      simp only [he] at k
      exact b_t rfl (k v w4 (fin _ v p w4 h4))
    | none =>
      rw [he] at h4
      obtain ⟨rfl, h5⟩ := err_none h4
      simp only [he, Option.isNone, if_true] at k
      refine b_f rfl ?_
      iterate 33 refine ⟨_, ld h5 rfl, ?_⟩
      exact c_unary (i := i) ho.a hx1 wa.2 h5 fun w6 h6 => ⟨rfl, k _ w6 (fin _ _ _ w6 (err_nil h6))⟩
  simp only [if_neg c2] at k
  refine b_f (nt c2) ?_
  by_cases c3 : i.op = 14
  · simp only [if_pos c3] at k
    refine b_t (by simpa using c3) ?_
    iterate 33 refine ⟨_, ld h1 rfl, ?_⟩
    refine c_two (i := i) ho hw hm h1 fun v w4 h4 => ⟨_, _, _, rfl, ?_⟩
    refine ⟨fun y w' => y = (i.c.kind != 0 && (rTwo (mv ps) p i).1.isNone) ∧ w' = w4, ⟨_, ld h4 rfl, ?_⟩, ?_⟩
    · by_cases c4 : i.c.kind = 0
      · exact b_f (by simpa using c4) ⟨by simp [c4], rfl⟩
      · exact b_t (by simpa using c4) (nq_err h4 ⟨by simp [c4], rfl⟩)
    rintro _ y w5 ⟨rfl, rfl⟩
    refine ⟨fun y v w' => y = (rThird (mv ps) p i).2 ∧ S w0 w' (errA (rThird (mv ps) p i).1 v * (prA T b p * (memA m r q ps * (pts b1 (.cells i.cells.toArray 65 (0, 0)) * F)))), ?_, ?_⟩
    · by_cases c4 : (i.c.kind != 0 && (rTwo (mv ps) p i).1.isNone) = true
      · rw [show rThird (mv ps) p i = _ from if_pos c4]
        refine b_t c4 ?_
        have hn : (rTwo (mv ps) p i).1 = none := by simp at c4; exact c4.2
        rw [hn] at h4
        obtain ⟨rfl, h5⟩ := err_none h4
        iterate 10 refine ⟨_, ld h5 rfl, ?_⟩
        exact c_value (o := i.c) ho.c hw hm h5 fun v w6 h6 => ⟨_, _, rfl, rfl, h6⟩
      · rw [show rThird (mv ps) p i = _ from if_neg c4]
        exact b_f (nt c4) ⟨rfl, h4⟩
    rintro _ y v w6 ⟨rfl, h6⟩
    refine nq_err h6 ?_
    generalize rThird (mv ps) p i = e at *
    cases he : e.1 with
    | some x =>
      rw [he] at h6
      simp only [he] at k
      exact b_t rfl (k v w6 (fin _ v p w6 h6))
    | none =>
      rw [he] at h6
      obtain ⟨rfl, h7⟩ := err_none h6
      simp only [he, Option.isNone, if_true] at k
      refine b_f rfl (dr h7 fun w8 h8 => ?_)
      iterate 10 refine ⟨_, ld h8 rfl, ?_⟩
      refine p_times wa.1 wa.2 h8 fun w9 h9 => ⟨_, rfl, ?_⟩
      repeat (first | refine ⟨_, ld h9 rfl, ?_⟩ | (with_reducible refine And.intro ?_ ?_; · rfl))
      exact c_setO (o := i.a) ho.a h9 fun w10 h10 => ⟨rfl, k _ w10 (fin _ _ _ w10 (err_nil h10))⟩
  simp only [if_neg c3] at k
  refine b_f (by simpa using c3) ?_
  refine ⟨fun y w' => y = isMv i.op ∧ w' = w3, ?_, ?_⟩
  · unfold isMv
    generalize i.op = o
    iterate 3 (split; · exact ⟨by simp_all, rfl⟩)
    exact ⟨by simp_all, rfl⟩
  rintro _ y w4 ⟨rfl, rfl⟩
  by_cases c4 : isMv i.op = true
  · simp only [if_pos c4] at k
    refine b_t c4 ?_
    iterate 33 refine ⟨_, ld h1 rfl, ?_⟩
    exact c_move (i := i) ho hw hm h1 fun v w5 h5 => ⟨_, rfl, k v w5 (fin _ v _ w5 h5)⟩
  simp only [if_neg c4] at k
  refine b_f (nt c4) ?_
  by_cases c5 : i.op = 9
  · simp only [if_pos c5] at k
    refine b_t (by simpa using c5) (dr h1 fun w5 h5 => ?_)
    iterate 20 refine ⟨_, ld h5 rfl, ?_⟩
    refine p_addr (o := i.b) ho.b h5 fun w6 h6 => ⟨_, rfl, ?_⟩
    repeat (first | refine ⟨_, ld h6 rfl, ?_⟩ | (with_reducible refine And.intro ?_ ?_; · rfl))
    refine c_mask wa.1 wa.2 ⟨_, rfl, ?_⟩
    repeat (first | refine ⟨_, ld h6 rfl, ?_⟩ | (with_reducible refine And.intro ?_ ?_; · rfl))
    exact c_setO (o := i.a) ho.a h6 fun w10 h10 => ⟨rfl, k _ w10 (fin _ _ _ w10 (err_nil h10))⟩
  simp only [if_neg c5] at k
  refine b_f (by simpa using c5) ?_
  by_cases c6 : i.op = 24
  · simp only [if_pos c6] at k
    refine b_t (by simpa using c6) (dr h1 fun w5 h5 => ?_)
    obtain ⟨z, h6⟩ := pr_open h5
    iterate 24 refine ⟨_, ld h6 rfl, ?_⟩
    refine c_Test (g := p.r) h6 fun w7 h7' => ⟨_, rfl, ?_⟩
    have h7 := pr_shut h7'
    refine ⟨fun y w' => y = (if tst p.r i.cond = true then 1 else 0) ∧ w' = w7, ?_, ?_⟩
    · by_cases c7 : tst p.r i.cond = true
      · exact b_t c7 ⟨by rw [if_pos c7], rfl⟩
      · exact b_f (nt c7) ⟨by rw [if_neg c7], rfl⟩
    rintro _ y w8 ⟨rfl, rfl⟩
    iterate 10 refine ⟨_, ld h7 rfl, ?_⟩
    exact c_setO (o := i.a) ho.a h7 fun w10 h10 => ⟨rfl, k _ w10 (fin _ _ _ w10 (err_nil h10))⟩
  simp only [if_neg c6] at k
  refine b_f (by simpa using c6) ?_
  iterate 33 refine ⟨_, ld h1 rfl, ?_⟩
  exact c_flow (i := i) ho hw hm h1 fun v w5 h5 => ⟨_, rfl, k v w5 (fin _ v _ w5 h5)⟩
end Go.Sk
