/- Contracts of the layer exec (seat Z): instructions. -/
import Derived.Test.YtnkdccidhjifmaaGreatDa
import Derived.Test.YtnkdccidhjifmaaGreatOkEy
set_option linter.unusedVariables false
set_option linter.unusedSimpArgs false
namespace Go.Sk
open Go.RowKit Go.Proofs
variable {w0 w : World} {F G : Asrt} {R : Ending → World → Prop}
variable {T : TypeId} {b m r : Nat} {q : Int} {ps : List Pg} {p : Pr}
structure Ins.ok (i : Ins) : Prop where
  a : i.a.ok
  b : i.b.ok
  c : i.c.ok
def rTwo (M : Mv) (p : Pr) (i : Ins) : Er × Int × Int :=
  if (rValue M p i.a).1.isNone = true then ((rValue M p i.b).1, (rValue M p i.a).2, (rValue M p i.b).2) else ((rValue M p i.a).1, 0, 0)
theorem c_two {i : Ins} (ho : i.ok) (hw : wfs ps) (hm : p.m = some ⟨m, 0, none⟩) (h : S w0 w (prA T b p * (memA m r q ps * F)))
    (k : ∀ v w', S w0 w' (errA (rTwo (mv ps) p i).1 v * (prA T b p * (memA m r q ps * F))) → R (.returned (.tuple #[.int .u64 (rTwo (mv ps) p i).2.1, .int .u64 (rTwo (mv ps) p i).2.2, v])) w') :
    Calls Tryz.prog 66 #[.pointer (some ⟨b, 0, none⟩), i.val] w R := by
  refine ok_exec_processor_two _ i.cells (al h fun b1 w1 h1' => ?_)
  have h1 : S w0 w1 (prA T b p * (memA m r q ps * (pts b1 (.cells i.cells.toArray 65 (0, 0)) * F))) := h1'.eq (by ac_rfl)
  iterate 10 refine ⟨_, ld h1 rfl, ?_⟩
  refine c_value (o := i.a) ho.a hw hm h1 fun v w2 h2 => ⟨_, _, rfl, nq_err h2 ?_⟩
  unfold rTwo at k
  cases he : (rValue (mv ps) p i.a).1 with
  | some e =>
    rw [he] at h2
    simp only [he] at k
    exact b_t rfl (k v w2 (h2.eq (show _ = pts b1 (.cells i.cells.toArray 65 (0, 0)) * _ by ac_rfl)).drop)
  | none =>
    rw [he] at h2
    obtain ⟨rfl, h3⟩ := err_none h2
    simp only [he, Option.isNone, if_true] at k
    refine b_f rfl ?_
    iterate 10 refine ⟨_, ld h3 rfl, ?_⟩
    refine c_value (o := i.b) ho.b hw hm h3 fun v w4 h4 => ⟨_, _, rfl, ?_⟩
    exact k v w4 (h4.eq (show _ = pts b1 (.cells i.cells.toArray 65 (0, 0)) * _ by ac_rfl)).drop
def rPush (p : Pr) (v : Int) : Pr := mStore (p.set 4 (IntKind.u64.wrap (p.r.r 4 - 8))) (IntKind.u64.wrap (p.r.r 4 - 8)) v 8
theorem c_push {v : Int} (h : S w0 w (prA T b p * F)) (k : ∀ w', S w0 w' (prA T b (rPush p v) * F) → R (.returned (.tuple #[])) w') :
    Calls Tryz.prog 104 #[.pointer (some ⟨b, 0, none⟩), .int .u64 v] w R := by
  refine ok_exec_processor_push _ _ ?_
  obtain ⟨z, h1⟩ := pr_open h
  refine dr h1 fun w2 h2 => ⟨_, ld h2 rfl, st h2 rfl fun w3 h3 => ?_⟩
  have h4 : S w0 w3 (pts b (.cells ((p.set 4 (IntKind.u64.wrap (p.r.r 4 - 8))).cells z).toArray T (0, 0)) * _) := h3
  refine ⟨_, ld h4 rfl, ?_⟩
  exact c_store (x := 8) (by omega) (pr_shut h4) fun w5 h5 => ⟨rfl, k w5 h5⟩
def rJump (M : Mv) (p : Pr) (o : Opn) : Er × Pr :=
  if o.kind = 2 then (none, { p with next := IntKind.u64.wrap (p.next + IntKind.u64.wrap o.imm) }) else ((rValue M p o).1, { p with next := (rValue M p o).2 })
theorem c_jump {o : Opn} (ho : o.ok) (hw : wfs ps) (hm : p.m = some ⟨m, 0, none⟩) (h : S w0 w (prA T b p * (memA m r q ps * F)))
    (k : ∀ v w', S w0 w' (errA (rJump (mv ps) p o).1 v * (prA T b (rJump (mv ps) p o).2 * (memA m r q ps * F))) → R (.returned v) w') :
    Calls Tryz.prog 105 #[.pointer (some ⟨b, 0, none⟩), o.val] w R := by
  refine ok_exec_processor_jump _ o.cells (al h fun b1 w1 h1' => ?_)
  have h1 : S w0 w1 (prA T b p * (memA m r q ps * (pts b1 (.cells o.cells.toArray 61 (0, 0)) * F))) := h1'.eq (by ac_rfl)
  refine ⟨_, ld h1 rfl, ?_⟩
  by_cases c1 : o.kind = 2
  · simp only [rJump, if_pos c1] at k
    obtain ⟨z, h2⟩ := pr_open h1
    refine b_t (by simpa using c1) (dr h2 fun w3 h3 => ?_)
    iterate 2 refine ⟨_, ld h3 rfl, ?_⟩
    refine st h3 rfl fun w4 h4 => k _ w4 (err_nil ?_)
    have h5 : S w0 w4 (prA T b _ * _) := pr_shut (p := { p with next := IntKind.u64.wrap (p.next + IntKind.u64.wrap o.imm) }) h4
    exact (h5.eq (show _ = pts b1 (.cells o.cells.toArray 61 (0, 0)) * _ by ac_rfl)).drop
  · simp only [rJump, if_neg c1] at k
    refine b_f (by simpa using c1) ?_
    iterate 10 refine ⟨_, ld h1 rfl, ?_⟩
    refine c_value (o := o) ho hw hm h1 fun v w2 h2 => ⟨_, _, rfl, ?_⟩
    obtain ⟨z, h3⟩ := pr_open (h2.eq (mulL _ _ _))
    refine st h3 rfl fun w4 h4 => k v w4 ?_
    have h5 : S w0 w4 (prA T b _ * _) := pr_shut (p := { p with next := (rValue (mv ps) p o).2 }) h4
    exact (h5.eq (show _ = pts b1 (.cells o.cells.toArray 61 (0, 0)) * _ by ac_rfl)).drop
theorem p_sum {u v x : Int} (h0 : 1 ≤ x) (h1 : x ≤ 8) (h : S w0 w (prA T b p * F)) (k : ∀ w', S w0 w' (prA T b (mSum p u v x) * F) → R (.returned (.int .u64 (mSumV u v x))) w') :
    Calls Tryz.prog 96 #[.pointer (some ⟨b, 0, none⟩), .int .u64 u, .int .u64 v, .int .i64 x] w R := by
  obtain ⟨z, h⟩ := pr_open h
  exact c_sum h0 h1 h fun w' h' => k w' (pr_shut (p := mSum p u v x) h')
theorem p_less {u v x : Int} (h0 : 1 ≤ x) (h1 : x ≤ 8) (h : S w0 w (prA T b p * F)) (k : ∀ w', S w0 w' (prA T b (mLess p u v x) * F) → R (.returned (.int .u64 (mLessV u v x))) w') :
    Calls Tryz.prog 97 #[.pointer (some ⟨b, 0, none⟩), .int .u64 u, .int .u64 v, .int .i64 x] w R := by
  obtain ⟨z, h⟩ := pr_open h
  exact c_less h0 h1 h fun w' h' => k w' (pr_shut (p := mLess p u v x) h')
theorem p_bit {v x : Int} (h0 : 1 ≤ x) (h1 : x ≤ 8) (h : S w0 w (prA T b p * F)) (k : ∀ w', S w0 w' (prA T b (mBit p v x) * F) → R (.returned (.int .u64 v)) w') :
    Calls Tryz.prog 98 #[.pointer (some ⟨b, 0, none⟩), .int .u64 v, .int .i64 x] w R := by
  obtain ⟨z, h⟩ := pr_open h
  exact c_bitwise h0 h1 h fun w' h' => k w' (pr_shut (p := mBit p v x) h')
theorem p_times {u v x : Int} (h0 : 0 ≤ x) (h1 : x ≤ 8) (h : S w0 w (prA T b p * F)) (k : ∀ w', S w0 w' (prA T b (mTimes p u v x) * F) → R (.returned (.int .u64 (mTimesV u v x))) w') :
    Calls Tryz.prog 71 #[.pointer (some ⟨b, 0, none⟩), .int .u64 u, .int .u64 v, .int .i64 x] w R := by
  obtain ⟨z, h⟩ := pr_open h
  exact c_times h0 h1 h fun w' h' => k w' (pr_shut (p := mTimes p u v x) h')
theorem mShift_b (p : Pr) (op a c x : Int) : (mShift p op a c x).2.b = p.b := by
  unfold mShift
  split
  · rfl
  · simp only []
    unfold mShO
    split <;> rfl
theorem p_shift {op u v x : Int} (h0 : 1 ≤ x) (h1 : x ≤ 8) (h : S w0 w (prA T b p * F)) (k : ∀ w', S w0 w' (prA T b (mShift p op u v x).2 * F) → R (.returned (.int .u64 (mShift p op u v x).1)) w') :
    Calls Tryz.prog 99 #[.pointer (some ⟨b, 0, none⟩), .int .i64 op, .int .u64 u, .int .u64 v, .int .i64 x] w R := by
  obtain ⟨z, h⟩ := pr_open h
  exact c_shift_ h0 h1 h fun w' h' => k w' (pr_shut (p := (mShift p op u v x).2) (by rw [mShift_b]; exact h'))
theorem p_addr {o : Opn} (ho : o.ok) (h : S w0 w (prA T b p * F)) (k : ∀ w', S w0 w' (prA T b p * F) → R (.returned (.int .u64 (mAddr p o))) w') :
    Calls Tryz.prog 73 #[.pointer (some ⟨b, 0, none⟩), o.val] w R := by
  obtain ⟨z, h⟩ := pr_open h
  exact c_addr ho h fun w' h' => k w' (pr_shut h')
def rBin (p : Pr) (i : Ins) (a b x : Int) : Pr :=
  if i.op = 1 then rSet (mSum p a b x) i.a (mSumV a b x)
  else if i.op = 4 then rSet (mLess p a b x) i.a (mLessV a b x)
  else if i.op = 6 then mLess p a b x
  else if i.op = 3 then rSet (mBit p (bAnd .u64 a b) x) i.a (bAnd .u64 a b)
  else if i.op = 2 then rSet (mBit p (bOr .u64 a b) x) i.a (bOr .u64 a b)
  else if i.op = 5 then rSet (mBit p (bXor .u64 a b) x) i.a (bXor .u64 a b)
  else if i.op = 7 then mBit p (bAnd .u64 a b) x
  else rSet (mShift p i.op a b x).2 i.a (mShift p i.op a b x).1
theorem c_binary {i : Ins} {u v x : Int} (ho : i.a.ok) (h0 : 1 ≤ x) (h1 : x ≤ 8) (h : S w0 w (prA T b p * F))
    (k : ∀ w', S w0 w' (prA T b (rBin p i u v x) * F) → R (.returned (.tuple #[])) w') :
    Calls Tryz.prog 67 #[.pointer (some ⟨b, 0, none⟩), i.val, .int .u64 u, .int .u64 v, .int .i64 x] w R := by
  refine ok_exec_processor_binary _ i.cells _ _ _ (al h fun b1 w1 h1' => ?_)
  have h2 : S w0 w1 (prA T b p * (pts b1 (.cells i.cells.toArray 65 (0, 0)) * F)) := h1'.eq (mulL _ _ _)
  have fin : ∀ (p' : Pr) (w' : World), S w0 w' (prA T b p' * (pts b1 (.cells i.cells.toArray 65 (0, 0)) * F)) → S w0 w' (prA T b p' * F) := fun p' w' h' => (h'.eq (mulL _ _ _)).drop
  refine ⟨_, ld h2 rfl, ?_⟩
  by_cases c1 : i.op = 1
  · simp only [rBin, if_pos c1] at k
    refine b_t (by simpa using c1) (dr h2 fun w4 h4 => ?_)
    iterate 10 refine ⟨_, ld h4 rfl, ?_⟩
    refine p_sum h0 h1 h4 fun w5 h5 => ⟨_, rfl, ?_⟩
    repeat (first | refine ⟨_, ld h5 rfl, ?_⟩ | (with_reducible refine And.intro ?_ ?_; · rfl))
    exact c_setO (o := i.a) ho h5 fun w6 h6 => ⟨rfl, k w6 (fin _ w6 h6)⟩
  refine b_f (by simpa using c1) ?_
  by_cases c2 : i.op = 4
  · simp only [rBin, if_neg c1, if_pos c2] at k
    refine b_t (by simpa using c2) (dr h2 fun w4 h4 => ?_)
    iterate 10 refine ⟨_, ld h4 rfl, ?_⟩
    refine p_less h0 h1 h4 fun w5 h5 => ⟨_, rfl, ?_⟩
    repeat (first | refine ⟨_, ld h5 rfl, ?_⟩ | (with_reducible refine And.intro ?_ ?_; · rfl))
    exact c_setO (o := i.a) ho h5 fun w6 h6 => ⟨rfl, k w6 (fin _ w6 h6)⟩
  refine b_f (by simpa using c2) ?_
  by_cases c3 : i.op = 6
  · simp only [rBin, if_neg c1, if_neg c2, if_pos c3] at k
    exact b_t (by simpa using c3) (p_less h0 h1 h2 fun w5 h5 => ⟨_, rfl, k w5 (fin _ w5 h5)⟩)
  refine b_f (by simpa using c3) ?_
  by_cases c4 : i.op = 3
  · simp only [rBin, if_neg c1, if_neg c2, if_neg c3, if_pos c4] at k
    refine b_t (by simpa using c4) (dr h2 fun w4 h4 => ?_)
    iterate 10 refine ⟨_, ld h4 rfl, ?_⟩
    refine p_bit h0 h1 h4 fun w5 h5 => ⟨_, rfl, ?_⟩
    repeat (first | refine ⟨_, ld h5 rfl, ?_⟩ | (with_reducible refine And.intro ?_ ?_; · rfl))
    exact c_setO (o := i.a) ho h5 fun w6 h6 => ⟨rfl, k w6 (fin _ w6 h6)⟩
  refine b_f (by simpa using c4) ?_
  by_cases c5 : i.op = 2
  · simp only [rBin, if_neg c1, if_neg c2, if_neg c3, if_neg c4, if_pos c5] at k
    refine b_t (by simpa using c5) (dr h2 fun w4 h4 => ?_)
    iterate 10 refine ⟨_, ld h4 rfl, ?_⟩
    refine p_bit h0 h1 h4 fun w5 h5 => ⟨_, rfl, ?_⟩
    repeat (first | refine ⟨_, ld h5 rfl, ?_⟩ | (with_reducible refine And.intro ?_ ?_; · rfl))
    exact c_setO (o := i.a) ho h5 fun w6 h6 => ⟨rfl, k w6 (fin _ w6 h6)⟩
  refine b_f (by simpa using c5) ?_
  by_cases c6 : i.op = 5
  · simp only [rBin, if_neg c1, if_neg c2, if_neg c3, if_neg c4, if_neg c5, if_pos c6] at k
    refine b_t (by simpa using c6) (dr h2 fun w4 h4 => ?_)
    iterate 10 refine ⟨_, ld h4 rfl, ?_⟩
    refine p_bit h0 h1 h4 fun w5 h5 => ⟨_, rfl, ?_⟩
    repeat (first | refine ⟨_, ld h5 rfl, ?_⟩ | (with_reducible refine And.intro ?_ ?_; · rfl))
    exact c_setO (o := i.a) ho h5 fun w6 h6 => ⟨rfl, k w6 (fin _ w6 h6)⟩
  refine b_f (by simpa using c6) ?_
  by_cases c7 : i.op = 7
  · simp only [rBin, if_neg c1, if_neg c2, if_neg c3, if_neg c4, if_neg c5, if_neg c6, if_pos c7] at k
    exact b_t (by simpa using c7) (p_bit h0 h1 h2 fun w5 h5 => ⟨_, rfl, k w5 (fin _ w5 h5)⟩)
  refine b_f (by simpa using c7) ?_
  simp only [rBin, if_neg c1, if_neg c2, if_neg c3, if_neg c4, if_neg c5, if_neg c6, if_neg c7] at k
  refine dr h2 fun w4 h4 => ?_
  iterate 11 refine ⟨_, ld h4 rfl, ?_⟩
  refine p_shift h0 h1 h4 fun w5 h5 => ⟨_, rfl, ?_⟩
  repeat (first | refine ⟨_, ld h5 rfl, ?_⟩ | (with_reducible refine And.intro ?_ ?_; · rfl))
  exact c_setO (o := i.a) ho h5 fun w6 h6 => ⟨rfl, k w6 (fin _ w6 h6)⟩
def Pr.cf (p : Pr) (c : Bool) : Pr := { p with r := { p.r with cf := c } }
def rUn (p : Pr) (i : Ins) (a x : Int) : Pr :=
  if i.op = 10 then rSet p i.a (bAnd .u64 (bXor .u64 18446744073709551615 a) (maskV x))
  else if i.op = 11 then rSet (mLess p 0 a x) i.a (mLessV 0 a x)
  else if i.op = 12 then (rSet (mSum p a 1 x) i.a (mSumV a 1 x)).cf p.r.cf
  else if i.op = 13 then (rSet (mLess p a 1 x) i.a (mLessV a 1 x)).cf p.r.cf
  else p
theorem c_unary {i : Ins} {u x : Int} (ho : i.a.ok) (h0 : 1 ≤ x) (h1 : x ≤ 8) (h : S w0 w (prA T b p * F))
    (k : ∀ w', S w0 w' (prA T b (rUn p i u x) * F) → R (.returned (.tuple #[])) w') :
    Calls Tryz.prog 69 #[.pointer (some ⟨b, 0, none⟩), i.val, .int .u64 u, .int .i64 x] w R := by
  refine ok_exec_processor_unary _ i.cells _ _ (al h fun b1 w1 h1' => ?_)
  have h2 : S w0 w1 (prA T b p * (pts b1 (.cells i.cells.toArray 65 (0, 0)) * F)) := h1'.eq (mulL _ _ _)
  have fin : ∀ (p' : Pr) (w' : World), S w0 w' (prA T b p' * (pts b1 (.cells i.cells.toArray 65 (0, 0)) * F)) → S w0 w' (prA T b p' * F) := fun p' w' h' => (h'.eq (mulL _ _ _)).drop
  obtain ⟨z, h3⟩ := pr_open h2
  iterate 2 refine ⟨_, ld h3 rfl, ?_⟩
  by_cases c1 : i.op = 10
  · simp only [rUn, if_pos c1] at k
    refine b_t (by simpa using c1) (dr h2 fun w4 h4 => ?_)
    iterate 10 refine ⟨_, ld h4 rfl, ?_⟩
    refine c_mask (by omega) h1 ⟨_, rfl, ?_⟩
    repeat (first | refine ⟨_, ld h4 rfl, ?_⟩ | (with_reducible refine And.intro ?_ ?_; · rfl))
    exact c_setO (o := i.a) ho h4 fun w6 h6 => ⟨rfl, k w6 (fin _ w6 h6)⟩
  refine b_f (by simpa using c1) ?_
  by_cases c2 : i.op = 11
  · simp only [rUn, if_neg c1, if_pos c2] at k
    refine b_t (by simpa using c2) (dr h2 fun w4 h4 => ?_)
    iterate 10 refine ⟨_, ld h4 rfl, ?_⟩
    refine p_less h0 h1 h4 fun w5 h5 => ⟨_, rfl, ?_⟩
    repeat (first | refine ⟨_, ld h5 rfl, ?_⟩ | (with_reducible refine And.intro ?_ ?_; · rfl))
    exact c_setO (o := i.a) ho h5 fun w6 h6 => ⟨rfl, k w6 (fin _ w6 h6)⟩
  refine b_f (by simpa using c2) ?_
  by_cases c3 : i.op = 12
  · simp only [rUn, if_neg c1, if_neg c2, if_pos c3] at k
    refine b_t (by simpa using c3) (dr h2 fun w4 h4 => ?_)
    iterate 10 refine ⟨_, ld h4 rfl, ?_⟩
    refine p_sum h0 h1 h4 fun w5 h5 => ⟨_, rfl, ?_⟩
    repeat (first | refine ⟨_, ld h5 rfl, ?_⟩ | (with_reducible refine And.intro ?_ ?_; · rfl))
    refine c_setO (o := i.a) ho h5 fun w6 h6 => ⟨rfl, ?_⟩
    obtain ⟨z, h7⟩ := pr_open h6
    exact st h7 rfl fun w8 h8 => k w8 (fin _ w8 (pr_shut (p := (rSet (mSum p u 1 x) i.a (mSumV u 1 x)).cf p.r.cf) h8))
  refine b_f (by simpa using c3) ?_
  by_cases c4 : i.op = 13
  · simp only [rUn, if_neg c1, if_neg c2, if_neg c3, if_pos c4] at k
    refine b_t (by simpa using c4) (dr h2 fun w4 h4 => ?_)
    iterate 10 refine ⟨_, ld h4 rfl, ?_⟩
    refine p_less h0 h1 h4 fun w5 h5 => ⟨_, rfl, ?_⟩
    repeat (first | refine ⟨_, ld h5 rfl, ?_⟩ | (with_reducible refine And.intro ?_ ?_; · rfl))
    refine c_setO (o := i.a) ho h5 fun w6 h6 => ⟨rfl, ?_⟩
    obtain ⟨z, h7⟩ := pr_open h6
    exact st h7 rfl fun w8 h8 => k w8 (fin _ w8 (pr_shut (p := (rSet (mLess p u 1 x) i.a (mLessV u 1 x)).cf p.r.cf) h8))
  simp only [rUn, if_neg c1, if_neg c2, if_neg c3, if_neg c4] at k
  exact b_f (by simpa using c4) (k w1 (fin _ w1 h2))
def mMoveV (p : Pr) (i : Ins) (v : Int) : Int :=
  if i.op = 27 then bAnd .u64 (wideV v i.b.width) (maskV i.a.width) else if (i.op == 25 && !tst p.r i.cond) = true then p.r.r i.a.reg.toNat else v
def rMove (M : Mv) (p : Pr) (i : Ins) : Er × Pr := ((rValue M p i.b).1, if (rValue M p i.b).1.isNone = true then rSet p i.a (mMoveV p i (rValue M p i.b).2) else p)
theorem c_move {i : Ins} (ho : i.ok) (hw : wfs ps) (hm : p.m = some ⟨m, 0, none⟩) (h : S w0 w (prA T b p * (memA m r q ps * F)))
    (k : ∀ v w', S w0 w' (errA (rMove (mv ps) p i).1 v * (prA T b (rMove (mv ps) p i).2 * (memA m r q ps * F))) → R (.returned v) w') :
    Calls Tryz.prog 72 #[.pointer (some ⟨b, 0, none⟩), i.val] w R := by
  refine ok_exec_processor_move _ i.cells (al h fun b1 w1 h1' => ?_)
  have h1 : S w0 w1 (prA T b p * (memA m r q ps * (pts b1 (.cells i.cells.toArray 65 (0, 0)) * F))) := h1'.eq (by ac_rfl)
  have fin : ∀ (e : Er) (v : Value) (p' : Pr) (w' : World), S w0 w' (errA e v * (prA T b p' * (memA m r q ps * (pts b1 (.cells i.cells.toArray 65 (0, 0)) * F)))) → S w0 w' (errA e v * (prA T b p' * (memA m r q ps * F))) := fun e v p' w' h' =>
    (h'.eq (show _ = pts b1 (.cells i.cells.toArray 65 (0, 0)) * _ by ac_rfl)).drop
  have wa := ho.a.wr
  have wb := ho.b.wr
  iterate 10 refine ⟨_, ld h1 rfl, ?_⟩
  refine c_value (o := i.b) ho.b hw hm h1 fun v w2 h2 => ⟨_, _, rfl, nq_err h2 ?_⟩
  unfold rMove at k
  generalize rValue (mv ps) p i.b = e at *
  cases he : e.1 with
  | some x =>
    rw [he] at h2
    simp only [he] at k
    exact b_t rfl (k v w2 (fin _ v p w2 h2))
  | none =>
    rw [he] at h2
    obtain ⟨rfl, h3⟩ := err_none h2
    simp only [he, Option.isNone, if_true] at k
    refine b_f rfl ?_
    refine ⟨fun y w' => y = mMoveV p i e.2 ∧ S w0 w' (prA T b p * (memA m r q ps * (pts b1 (.cells i.cells.toArray 65 (0, 0)) * F))), ⟨_, ld h3 rfl, ?_⟩, ?_⟩
    · by_cases c1 : i.op = 27
      · rw [show mMoveV p i e.2 = _ from if_pos c1]
        refine b_t (by simpa using c1) (dr h3 fun w4 h4 => ⟨_, ld h4 rfl, _, ld h4 rfl, c_wide wb.1 wb.2 ⟨_, rfl, _, ld h4 rfl, rfl, c_mask wa.1 wa.2 ⟨_, rfl, rfl, h4⟩⟩⟩)
      · refine b_f (by simpa using c1) ?_
        refine ⟨fun y w' => y = (i.op == 25 && !tst p.r i.cond) ∧ S w0 w' (prA T b p * (memA m r q ps * (pts b1 (.cells i.cells.toArray 65 (0, 0)) * F))), ?_, ?_⟩
        · refine dr h3 fun w4 h4 => ⟨_, ld h4 rfl, ?_⟩
          by_cases c2 : i.op = 25
          · obtain ⟨z, h5⟩ := pr_open h4
            refine b_t (by simpa using c2) ?_
            iterate 24 refine ⟨_, ld h5 rfl, ?_⟩
            exact c_Test (g := p.r) h5 fun w6 h6 => ⟨_, rfl, by simp [c2], pr_shut h6⟩
          · exact b_f (by simpa using c2) ⟨by simp [c2], h4⟩
        · rintro _ y w4 ⟨rfl, h4⟩
          by_cases c3 : (i.op == 25 && !tst p.r i.cond) = true
          · obtain ⟨z, h5⟩ := pr_open h4
            refine b_t c3 (dr h5 fun w6 h6 => ⟨_, ld h6 rfl, ⟨ho.a.r0, ho.a.r1⟩, _, ld_reg h6 ho.a.r0 ho.a.r1, ?_, pr_shut h6⟩)
            unfold mMoveV
            rw [if_neg c1, if_pos c3]
          · refine b_f (nt c3) ⟨?_, h4⟩
            unfold mMoveV
            rw [if_neg c1, if_neg c3]
    · rintro _ y w4 ⟨rfl, h4⟩
      iterate 10 refine ⟨_, ld h4 rfl, ?_⟩
      exact c_setO (o := i.a) ho.a h4 fun w6 h6 => ⟨rfl, k _ w6 (fin _ _ _ w6 (err_nil h6))⟩
end Go.Sk
