/- Contracts of the layer exec (seat Z): flags, sums, shifts, products. -/
import Derived.Test.YtnkdccidhjifmaaGreatCy
set_option linter.unusedVariables false
set_option linter.unusedSimpArgs false
namespace Go.Sk
open Go.RowKit Go.Proofs
variable {w0 w : World} {F : Asrt} {R : Ending → World → Prop}
theorem u9 : Tryz.prog.underlying 9 = some .string := by kernel_rfl
theorem run_ones {x : Int} (h0 : 0 ≤ x) (h1 : x < 256) (w : World) : (Instr.index 9 (.string str8) (.int .u8 x)).run Tryz.prog w = .ok (.int .u8 (onesV x)) w := by
  obtain ⟨⟨b, hb, hb2⟩, _⟩ := ones8_at (n := x.toNat) (by omega)
  have hs : str8[x.toNat]? = some b := by
    have hl : x.toNat < str8.size := by have : str8.size = 256 := by kernel_rfl
                                        omega
    rw [getElem?_pos str8 x.toNat hl]
    have : str8.data[x.toNat]? = some str8.data[x.toNat] := getElem?_pos _ _ _
    rw [this] at hb
    exact hb
  simp [Instr.index, asIntOf, run_underlying u9, Result.andThen, h0, hs, onesV, hb2]
theorem onesV_range (x : Int) (h0 : 0 ≤ x) (h1 : x < 256) : 0 ≤ onesV x ∧ onesV x ≤ 8 := by
  have := (ones8_at (n := x.toNat) (by omega)).2
  unfold onesV
  omega
theorem c_ones {x : Int} (h0 : 0 ≤ x) (h1 : x < 256) (k : R (.returned (.int .i64 (onesV x))) w) : Calls Tryz.prog 143 #[.int .u8 x] w R := by
  refine ok_math_bits_OnesCount8 _ ⟨onesV x, w, run_ones h0 h1 w, ?_⟩
  have := onesV_range x h0 h1
  rw [wi64 (by omega) (by omega)]
  exact k
def mThree (p : Pr) (v x : Int) : Pr := { p with r := { p.r with zf := v == 0, sf := topV v x, pf := (onesV (v % 256)).tmod 2 == 0 } }
theorem c_three {T : TypeId} {b : Nat} {p : Pr} {z : Sl3} {v x : Int} (h0 : 1 ≤ x) (h1 : x ≤ 8) (h : S w0 w (pts b (.cells (p.cells z).toArray T (0, 0)) * F))
    (k : ∀ w', S w0 w' (pts b (.cells ((mThree p v x).cells z).toArray T (0, 0)) * F) → R (.returned (.tuple #[])) w') : Calls Tryz.prog 131 #[.pointer (some ⟨b, 0, none⟩), .int .u64 v, .int .i64 x] w R := by
  refine ok_exec_processor_three _ _ _ (c_top h0 h1 ⟨_, rfl, ?_⟩)
  rw [wi8]
  refine c_ones (by omega) (by omega) ⟨_, rfl, ?_⟩
  exact st h rfl fun w1 h1 => st h1 rfl fun w2 h2 => st h2 rfl fun w3 h3 => k w3 h3
def mSumV (a b x : Int) : Int := bAnd .u64 (IntKind.u64.wrap (a + b)) (maskV x)
def mSum (p : Pr) (a b x : Int) : Pr := { mThree p (mSumV a b x) x with r := { (mThree p (mSumV a b x) x).r with cf := decide (mSumV a b x < a), of := if topV a x == topV b x then !(topV (mSumV a b x) x == topV a x) else false } }
theorem c_sum {T : TypeId} {b : Nat} {p : Pr} {z : Sl3} {u v x : Int} (h0 : 1 ≤ x) (h1 : x ≤ 8) (h : S w0 w (pts b (.cells (p.cells z).toArray T (0, 0)) * F))
    (k : ∀ w', S w0 w' (pts b (.cells ((mSum p u v x).cells z).toArray T (0, 0)) * F) → R (.returned (.int .u64 (mSumV u v x))) w') : Calls Tryz.prog 96 #[.pointer (some ⟨b, 0, none⟩), .int .u64 u, .int .u64 v, .int .i64 x] w R := by
  refine ok_exec_processor_sum _ _ _ _ (c_mask (by omega) h1 ⟨_, rfl, c_three h0 h1 h fun w1 h1' => ⟨rfl, st h1' rfl fun w2 h2 => ?_⟩⟩)
  refine ⟨fun w' => S w0 w' (pts b (.cells ((mSum p u v x).cells z).toArray T (0, 0)) * F), ?_, fun _ w' h' => k w' h'⟩
  refine c_top h0 h1 ⟨_, rfl, c_top h0 h1 ⟨_, rfl, ?_⟩⟩
  by_cases c : (topV u x == topV v x) = true
  · refine b_t c (c_top h0 h1 ⟨_, rfl, c_top h0 h1 ⟨_, rfl, st h2 rfl fun w3 h3 => ?_⟩⟩)
    unfold mSum
    rw [if_pos c]
    exact h3
  · refine b_f (nt c) (st h2 rfl fun w3 h3 => ?_)
    unfold mSum
    rw [if_neg c]
    exact h3
def mLessV (a b x : Int) : Int := bAnd .u64 (IntKind.u64.wrap (a - b)) (maskV x)
def mLess (p : Pr) (a b x : Int) : Pr := { mThree p (mLessV a b x) x with r := { (mThree p (mLessV a b x) x).r with cf := decide (a < b), of := if !(topV a x == topV b x) then !(topV (mLessV a b x) x == topV a x) else false } }
theorem c_less {T : TypeId} {b : Nat} {p : Pr} {z : Sl3} {u v x : Int} (h0 : 1 ≤ x) (h1 : x ≤ 8) (h : S w0 w (pts b (.cells (p.cells z).toArray T (0, 0)) * F))
    (k : ∀ w', S w0 w' (pts b (.cells ((mLess p u v x).cells z).toArray T (0, 0)) * F) → R (.returned (.int .u64 (mLessV u v x))) w') : Calls Tryz.prog 97 #[.pointer (some ⟨b, 0, none⟩), .int .u64 u, .int .u64 v, .int .i64 x] w R := by
  refine ok_exec_processor_less _ _ _ _ (c_mask (by omega) h1 ⟨_, rfl, c_three h0 h1 h fun w1 h1' => ⟨rfl, st h1' rfl fun w2 h2 => ?_⟩⟩)
  refine ⟨fun w' => S w0 w' (pts b (.cells ((mLess p u v x).cells z).toArray T (0, 0)) * F), ?_, fun _ w' h' => k w' h'⟩
  refine c_top h0 h1 ⟨_, rfl, c_top h0 h1 ⟨_, rfl, ?_⟩⟩
  by_cases c : (!(topV u x == topV v x)) = true
  · refine b_t c (c_top h0 h1 ⟨_, rfl, c_top h0 h1 ⟨_, rfl, st h2 rfl fun w3 h3 => ?_⟩⟩)
    unfold mLess
    rw [if_pos c]
    exact h3
  · refine b_f (nt c) (st h2 rfl fun w3 h3 => ?_)
    unfold mLess
    rw [if_neg c]
    exact h3
def mBit (p : Pr) (v x : Int) : Pr := { mThree p v x with r := { (mThree p v x).r with cf := false, of := false } }
theorem c_bitwise {T : TypeId} {b : Nat} {p : Pr} {z : Sl3} {v x : Int} (h0 : 1 ≤ x) (h1 : x ≤ 8) (h : S w0 w (pts b (.cells (p.cells z).toArray T (0, 0)) * F))
    (k : ∀ w', S w0 w' (pts b (.cells ((mBit p v x).cells z).toArray T (0, 0)) * F) → R (.returned (.int .u64 v)) w') : Calls Tryz.prog 98 #[.pointer (some ⟨b, 0, none⟩), .int .u64 v, .int .i64 x] w R :=
  ok_exec_processor_bitwise _ _ _ (c_three h0 h1 h fun w1 h1' => ⟨rfl, st h1' rfl fun w2 h2 => st h2 rfl fun w3 h3 => k w3 h3⟩)
theorem run_max (x y : Int) (w : World) : (Builtin.max_ #[3, 3] 3 #[.int .i64 x, .int .i64 y]).run Tryz.prog w = .ok (.int .i64 (max x y)) w := by
  have e : max x y = if y > x then y else x := by split <;> omega
  rw [e]
  rfl
def mCnt (count x : Int) : Int := bAnd .u64 count (IntKind.u64.wrap (max 31 (8 * x - 1)))
def mShV (op a c x : Int) : Int × Bool :=
  if op = 15 then (bAnd .u64 (shlI .u64 a c) (maskV x), bAnd .u64 (shrI .u64 a (IntKind.u64.wrap (IntKind.u64.wrap (8 * x) - c))) 1 == 1)
  else if op = 16 then (shrI .u64 a c, bAnd .u64 (shrI .u64 a (IntKind.u64.wrap (c - 1))) 1 == 1)
  else if op = 17 then (bAnd .u64 (IntKind.u64.wrap (shrI .i64 (IntKind.i64.wrap (wideV a x)) c)) (maskV x), bAnd .i64 (shrI .i64 (IntKind.i64.wrap (wideV a x)) (IntKind.u64.wrap (c - 1))) 1 == 1)
  else (0, false)
def mShP (p : Pr) (v x : Int) (out : Bool) : Pr := { mThree p v x with r := { (mThree p v x).r with cf := out } }
def mShO (p : Pr) (op c v a x : Int) (out : Bool) : Pr :=
  if c = 1 then { p with r := { p.r with of := if op = 15 then !(topV v x == out) else if op = 16 then topV a x else false } } else p
def mShift (p : Pr) (op a count x : Int) : Int × Pr :=
  if mCnt count x = 0 then (a, p) else ((mShV op a (mCnt count x) x).1, mShO (mShP p (mShV op a (mCnt count x) x).1 x (mShV op a (mCnt count x) x).2) op (mCnt count x) (mShV op a (mCnt count x) x).1 a x (mShV op a (mCnt count x) x).2)
theorem bAnd64_nn (a b : Int) : 0 ≤ bAnd .u64 a b := by unfold bAnd; rw [w64]; omega
theorem w64_nn (a : Int) : 0 ≤ IntKind.u64.wrap a := by rw [w64]; omega
theorem c_shift_ {T : TypeId} {b : Nat} {p : Pr} {z : Sl3} {op a count x : Int} (h0 : 1 ≤ x) (h1 : x ≤ 8) (h : S w0 w (pts b (.cells (p.cells z).toArray T (0, 0)) * F))
    (k : ∀ w', S w0 w' (pts b (.cells ((mShift p op a count x).2.cells z).toArray T (0, 0)) * F) → R (.returned (.int .u64 (mShift p op a count x).1)) w') : Calls Tryz.prog 99 #[.pointer (some ⟨b, 0, none⟩), .int .i64 op, .int .u64 a, .int .u64 count, .int .i64 x] w R := by
  refine ok_exec_processor_shift _ _ _ _ _ ?_
  rw [wi64 (x := 8 * x) (by omega) (by omega), wi64 (x := 8 * x - 1) (by omega) (by omega)]
  refine ⟨max 31 (8 * x - 1), w, run_max _ _ _, ?_⟩
  show if (mCnt count x == 0) = true then _ else _
  unfold mShift at k
  by_cases c1 : mCnt count x = 0
  · simp only [if_pos c1] at k
    exact b_t (by simpa using c1) (k w h)
  simp only [if_neg c1] at k
  refine b_f (by simpa using c1) ?_
  have hc0 : 0 ≤ mCnt count x := bAnd64_nn _ _
  refine ⟨fun v o w' => (v, o) = mShV op a (mCnt count x) x ∧ w' = w, ?_, ?_⟩
  · unfold mShV
    by_cases c2 : op = 15
    · rw [if_pos c2]
      exact b_t (by simpa using c2) ⟨hc0, c_mask (by omega) h1 ⟨_, rfl, w64_nn _, rfl, rfl⟩⟩
    rw [if_neg c2]
    refine b_f (by simpa using c2) ?_
    by_cases c3 : op = 16
    · rw [if_pos c3]
      exact b_t (by simpa using c3) ⟨hc0, w64_nn _, rfl, rfl⟩
    rw [if_neg c3]
    refine b_f (by simpa using c3) ?_
    by_cases c4 : op = 17
    · rw [if_pos c4]
      exact b_t (by simpa using c4) (c_wide (by omega) h1 ⟨_, rfl, hc0, c_mask (by omega) h1 ⟨_, rfl, w64_nn _, rfl, rfl⟩⟩)
    rw [if_neg c4]
    exact b_f (by simpa using c4) ⟨rfl, rfl⟩
  rintro _ v o w2 ⟨hv, rfl⟩
  rw [← hv] at k
  simp only [] at k
  refine c_three h0 h1 h fun w3 h3 => ⟨rfl, st h3 rfl fun w4 h4 => ?_⟩
  have h4' : S w0 w4 (pts b (.cells ((mShP p v x o).cells z).toArray T (0, 0)) * F) := h4
  refine ⟨fun w' => S w0 w' (pts b (.cells ((mShO (mShP p v x o) op (mCnt count x) v a x o).cells z).toArray T (0, 0)) * F), ?_, fun _ w' h' => k w' h'⟩
  show if (mCnt count x == 1) = true then _ else _
  by_cases c5 : mCnt count x = 1
  · refine b_t (by simpa using c5) ?_
    by_cases c2 : op = 15
    · refine b_t (by simpa using c2) (c_top h0 h1 ⟨_, rfl, ?_⟩)
      cases c6 : (!(topV v x == o)) with
      | false =>
        refine ift rfl ?_
        refine b_f (by simp [c2]) (st h4 rfl fun w5 h5 => ?_)
        unfold mShO
        rw [if_pos c5, if_pos c2, c6]
        exact h5
      | true =>
        refine iff_ (by simp) (st h4 rfl fun w5 h5 => ?_)
        unfold mShO
        rw [if_pos c5, if_pos c2, c6]
        exact h5
    refine b_f (by simpa using c2) ?_
    by_cases c3 : op = 16
    · refine b_t (by simpa using c3) (c_top h0 h1 ⟨_, rfl, st h4 rfl fun w5 h5 => ?_⟩)
      unfold mShO
      rw [if_pos c5, if_neg c2, if_pos c3]
      exact h5
    · refine b_f (by simpa using c3) (st h4 rfl fun w5 h5 => ?_)
      unfold mShO
      rw [if_pos c5, if_neg c2, if_neg c3]
      exact h5
  · refine b_f (by simpa using c5) ?_
    unfold mShO
    rw [if_neg c5]
    exact h4
/-! ### products -/
def mulHi (x y : Int) : Int := (IntKind.u64.wrap ((IntKind.u64.wrap ((IntKind.u64.wrap ((shrI .u64 x 32) * (shrI .u64 y 32))) + (shrI .u64 (IntKind.u64.wrap ((IntKind.u64.wrap ((shrI .u64 x 32) * (bAnd .u64 y 4294967295))) + (shrI .u64 (IntKind.u64.wrap ((bAnd .u64 x 4294967295) * (bAnd .u64 y 4294967295))) 32))) 32))) + (shrI .u64 (IntKind.u64.wrap ((bAnd .u64 (IntKind.u64.wrap ((IntKind.u64.wrap ((shrI .u64 x 32) * (bAnd .u64 y 4294967295))) + (shrI .u64 (IntKind.u64.wrap ((bAnd .u64 x 4294967295) * (bAnd .u64 y 4294967295))) 32))) 4294967295) + (IntKind.u64.wrap ((bAnd .u64 x 4294967295) * (shrI .u64 y 32))))) 32)))
def mulLo (x y : Int) : Int := IntKind.u64.wrap (x * y)
theorem c_Mul64 {x y : Int} (k : R (.returned (.tuple #[.int .u64 (mulHi x y), .int .u64 (mulLo x y)])) w) : Calls Tryz.prog 103 #[.int .u64 x, .int .u64 y] w R := ok_math_bits_Mul64 _ _ k
def mTm1 (x y : Int) : Int := if IntKind.i64.wrap x < 0 then IntKind.u64.wrap (mulHi x y - y) else mulHi x y
def mTm2 (x y : Int) : Int := if IntKind.i64.wrap y < 0 then IntKind.u64.wrap (mTm1 x y - x) else mTm1 x y
def mTimesV (a b x : Int) : Int := bAnd .u64 (mulLo (wideV a x) (wideV b x)) (maskV x)
def mOver (a b x : Int) : Bool := wideV (mTimesV a b x) x != mulLo (wideV a x) (wideV b x) || mTm2 (wideV a x) (wideV b x) != IntKind.u64.wrap (shrI .i64 (IntKind.i64.wrap (wideV (mTimesV a b x) x)) 63)
def mTimes (p : Pr) (a b x : Int) : Pr := { p with r := { p.r with cf := mOver a b x, of := mOver a b x } }
theorem c_times {T : TypeId} {b : Nat} {p : Pr} {z : Sl3} {u v x : Int} (h0 : 0 ≤ x) (h1 : x ≤ 8) (h : S w0 w (pts b (.cells (p.cells z).toArray T (0, 0)) * F))
    (k : ∀ w', S w0 w' (pts b (.cells ((mTimes p u v x).cells z).toArray T (0, 0)) * F) → R (.returned (.int .u64 (mTimesV u v x))) w') : Calls Tryz.prog 71 #[.pointer (some ⟨b, 0, none⟩), .int .u64 u, .int .u64 v, .int .i64 x] w R := by
  refine ok_exec_processor_times _ _ _ _ (c_wide h0 h1 ⟨_, rfl, c_wide h0 h1 ⟨_, rfl, c_Mul64 ⟨_, _, rfl, ?_⟩⟩⟩)
  refine ⟨fun y w' => y = mTm1 (wideV u x) (wideV v x) ∧ w' = w, ?_, ?_⟩
  · by_cases c : IntKind.i64.wrap (wideV u x) < 0
    · rw [show mTm1 (wideV u x) (wideV v x) = _ from if_pos c]
      exact dt c ⟨rfl, rfl⟩
    · rw [show mTm1 (wideV u x) (wideV v x) = _ from if_neg c]
      exact df c ⟨rfl, rfl⟩
  rintro _ y w1 ⟨rfl, rfl⟩
  refine ⟨fun y w' => y = mTm2 (wideV u x) (wideV v x) ∧ w' = w1, ?_, ?_⟩
  · by_cases c : IntKind.i64.wrap (wideV v x) < 0
    · rw [show mTm2 (wideV u x) (wideV v x) = _ from if_pos c]
      exact dt c ⟨rfl, rfl⟩
    · rw [show mTm2 (wideV u x) (wideV v x) = _ from if_neg c]
      exact df c ⟨rfl, rfl⟩
  rintro _ y w2 ⟨rfl, rfl⟩
  refine c_mask h0 h1 ⟨_, rfl, c_wide h0 h1 ⟨_, rfl, ?_⟩⟩
  refine ⟨fun y w' => y = mOver u v x ∧ w' = w2, ?_, ?_⟩
  · show if (wideV (mTimesV u v x) x != mulLo (wideV u x) (wideV v x)) = false then _ else _
    cases c : (wideV (mTimesV u v x) x != mulLo (wideV u x) (wideV v x)) with
    | false => exact ift rfl ⟨by rw [mOver, c]; rfl, rfl⟩
    | true => exact iff_ (by simp) ⟨by rw [mOver, c]; rfl, rfl⟩
  rintro _ y w3 ⟨rfl, rfl⟩
  exact st h rfl fun w4 h4 => st h4 rfl fun w5 h5 => k w5 h5
end Go.Sk
