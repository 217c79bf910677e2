/- Contracts of the layer exec (seat Z): conditions. -/
import Derived.Test.YtnkdccidhjifmaaGreatNum
import Derived.Test.YtnkdccidhjifmaaGreatOkEx
set_option linter.unusedVariables false
set_option linter.unusedSimpArgs false
namespace Go.Sk
open Go.RowKit Go.Proofs
variable {w0 w : World} {F : Asrt} {R : Ending → World → Prop}
structure Rg where
  r : Nat → Int
  ip : Int
  fs : Int
  cf : Bool
  zf : Bool
  sf : Bool
  of : Bool
  pf : Bool
def Rg.cells (g : Rg) : List Value := [.int .u64 (g.r 0), .int .u64 (g.r 1), .int .u64 (g.r 2), .int .u64 (g.r 3), .int .u64 (g.r 4), .int .u64 (g.r 5), .int .u64 (g.r 6), .int .u64 (g.r 7),
  .int .u64 (g.r 8), .int .u64 (g.r 9), .int .u64 (g.r 10), .int .u64 (g.r 11), .int .u64 (g.r 12), .int .u64 (g.r 13), .int .u64 (g.r 14), .int .u64 (g.r 15), .int .u64 g.ip, .int .u64 g.fs, .bool g.cf, .bool g.zf, .bool g.sf, .bool g.of, .bool g.pf]
def Rg.val (g : Rg) : Value := .agg g.cells.toArray
def tstE (g : Rg) (e : Int) : Bool :=
  if e = 0 then g.of else if e = 2 then g.cf else if e = 4 then g.zf else if e = 6 then g.cf || g.zf else if e = 8 then g.sf else if e = 10 then g.pf
  else if e = 12 then !(g.sf == g.of) else if e = 14 then g.zf || !(g.sf == g.of) else false
def tst (g : Rg) (c : Int) : Bool := !(tstE g (bAnd .i64 c 14) == (bAnd .i64 c 1 == 1))
theorem c_Test {g : Rg} {c : Int} (h : S w0 w F) (k : ∀ w', S w0 w' F → R (.returned (.bool (tst g c))) w') : Calls Tryz.prog 13 #[g.val, .int .i64 c] w R := by
  refine ok_exec_Test g.cells _ (al h fun b1 w1 h1 => ?_)
  refine ⟨fun y w' => y = tstE g (bAnd .i64 c 14) ∧ w' = w1, ?_, ?_⟩
  · generalize bAnd .i64 c 14 = e
    unfold tstE
    by_cases c1 : e = 0
    · rw [if_pos c1]; exact b_t (by simpa using c1) ⟨_, ld h1 rfl, rfl, rfl⟩
    rw [if_neg c1]; refine b_f (by simpa using c1) ?_
    by_cases c2 : e = 2
    · rw [if_pos c2]; exact b_t (by simpa using c2) ⟨_, ld h1 rfl, rfl, rfl⟩
    rw [if_neg c2]; refine b_f (by simpa using c2) ?_
    by_cases c3 : e = 4
    · rw [if_pos c3]; exact b_t (by simpa using c3) ⟨_, ld h1 rfl, rfl, rfl⟩
    rw [if_neg c3]; refine b_f (by simpa using c3) ?_
    by_cases c4 : e = 6
    · rw [if_pos c4]; refine b_t (by simpa using c4) ⟨_, ld h1 rfl, ?_⟩
      cases hcf : g.cf
      · exact ift rfl ⟨_, ld h1 rfl, by simp, rfl⟩
      · exact iff_ (by simp) ⟨by simp, rfl⟩
    rw [if_neg c4]; refine b_f (by simpa using c4) ?_
    by_cases c5 : e = 8
    · rw [if_pos c5]; exact b_t (by simpa using c5) ⟨_, ld h1 rfl, rfl, rfl⟩
    rw [if_neg c5]; refine b_f (by simpa using c5) ?_
    by_cases c6 : e = 10
    · rw [if_pos c6]; exact b_t (by simpa using c6) ⟨_, ld h1 rfl, rfl, rfl⟩
    rw [if_neg c6]; refine b_f (by simpa using c6) ?_
    by_cases c7 : e = 12
    · rw [if_pos c7]; exact b_t (by simpa using c7) ⟨_, ld h1 rfl, _, ld h1 rfl, rfl, rfl⟩
    rw [if_neg c7]; refine b_f (by simpa using c7) ?_
    by_cases c8 : e = 14
    · rw [if_pos c8]; refine b_t (by simpa using c8) ⟨_, ld h1 rfl, ?_⟩
      cases hzf : g.zf
      · exact ift rfl ⟨_, ld h1 rfl, _, ld h1 rfl, by simp, rfl⟩
      · exact iff_ (by simp) ⟨by simp, rfl⟩
    rw [if_neg c8]; exact b_f (by simpa using c8) ⟨rfl, rfl⟩
  · rintro _ y w2 ⟨rfl, rfl⟩
    exact k w2 h1.drop

def maskV (x : Int) : Int := shrI .u64 18446744073709551615 (64 - 8 * x)
def topV (v x : Int) : Bool := bAnd .u64 (shrI .u64 v (8 * x - 1)) 1 == 1
def wideV (v x : Int) : Int := IntKind.u64.wrap (shrI .i64 (IntKind.i64.wrap (shlI .u64 v (64 - 8 * x))) (64 - 8 * x))
theorem c_mask {x : Int} (h0 : 0 ≤ x) (h1 : x ≤ 8) (k : R (.returned (.int .u64 (maskV x))) w) : Calls Tryz.prog 74 #[.int .i64 x] w R := by
  refine ok_exec_mask _ ?_
  rw [wi64 (x := 8 * x) (by omega) (by omega), wi64 (x := 64 - 8 * x) (by omega) (by omega)]
  exact ⟨by omega, k⟩
theorem c_top {v x : Int} (h0 : 1 ≤ x) (h1 : x ≤ 8) (k : R (.returned (.bool (topV v x))) w) : Calls Tryz.prog 132 #[.int .u64 v, .int .i64 x] w R := by
  refine ok_exec_top _ _ ?_
  rw [wi64 (x := 8 * x) (by omega) (by omega), wi64 (x := 8 * x - 1) (by omega) (by omega)]
  exact ⟨by omega, k⟩
theorem c_wide {v x : Int} (h0 : 0 ≤ x) (h1 : x ≤ 8) (k : R (.returned (.int .u64 (wideV v x))) w) : Calls Tryz.prog 102 #[.int .u64 v, .int .i64 x] w R := by
  refine ok_exec_wide _ _ ?_
  rw [wi64 (x := 8 * x) (by omega) (by omega), wi64 (x := 64 - 8 * x) (by omega) (by omega)]
  exact ⟨by omega, by omega, k⟩
end Go.Sk
