/- Contracts of the layer decode (seat Z): the row of an opcode, the reader. -/
import Derived.Test.YtnkdccidhjifmaaGreatCe
set_option linter.unusedVariables false
set_option linter.unusedSimpArgs false
namespace Go.Sk
open Go.RowKit Go.Proofs
variable {w0 w : World} {F : Asrt} {R : Ending → World → Prop}
def rRowOf (two : Bool) (op x digit : Int) : Row × Bool := if two = true then rbehind op x digit else if op < 128 then rFirst op x else rsecond op x digit
theorem c_rowOf {two : Bool} {op x digit : Int} (h0 : 0 ≤ op) (ho1 : op < 256) (hd0 : 0 ≤ digit) (hd1 : digit < 8) (h : S w0 w F) (k : ∀ w', S w0 w' F → R (.returned (rv (rRowOf two op x digit))) w') :
    Calls Tryz.prog 61 #[.bool two, .int .i64 op, .int .i64 x, .int .i64 digit] w R := by
  refine ok_decode_rowOf _ _ _ _ (al h fun b1 w1 h1 => ?_)
  unfold rRowOf at k
  by_cases c1 : two = true
  · rw [if_pos c1] at k
    refine b_t c1 (c_behind h0 ho1 hd0 hd1 h1 fun w8 h8 => ?_)
    exact leafRow h8 rfl fun w9 h9 => k w9 h9.drop
  · rw [if_neg c1] at k
    refine b_f (by simpa using c1) ?_
    by_cases c2 : op < 128
    · rw [if_pos c2] at k
      refine dt c2 (c_first h0 c2 h1 fun w8 h8 => ?_)
      exact leafRow h8 rfl fun w9 h9 => k w9 h9.drop
    · rw [if_neg c2] at k
      refine df c2 (c_second h0 ho1 hd0 hd1 h1 fun w8 h8 => ?_)
      exact leafRow h8 rfl fun w9 h9 => k w9 h9.drop
def rAnyFrom (two : Bool) (op x : Int) : Nat → Nat → Row × Bool
  | 0, _ => rNo
  | n + 1, d => if (rRowOf two op x d).2 = true then ((rRowOf two op x d).1, true) else rAnyFrom two op x n (d + 1)
def rAny (two : Bool) (op x : Int) : Row × Bool := rAnyFrom two op x 8 0
theorem c_anyRow {two : Bool} {op x : Int} (h0 : 0 ≤ op) (ho1 : op < 256) (h : S w0 w F) (k : ∀ w', S w0 w' F → R (.returned (rv (rAny two op x))) w') :
    Calls Tryz.prog 58 #[.bool two, .int .i64 op, .int .i64 x] w R := by
  refine ok_decode_anyRow _ _ _ (al h fun b1 w1 h1 => ?_)
  refine ⟨fun y w' => ∃ d : Nat, y = d ∧ d ≤ 8 ∧ rAny two op x = rAnyFrom two op x (8 - d) d ∧ ∃ c, Nat.beq c.size 12 = true ∧ S w0 w' (pts b1 (.cells c 146 (0, 0)) * F), fun y _ => (8 - y).toNat, ⟨0, rfl, by omega, rfl, _, rfl, h1⟩, ?_⟩
  rintro _ y w2 ⟨d, rfl, hd, he, c, hc, h2⟩
  refine dc (fun hlt => ?_) (fun hlt => ?_)
  · refine c_rowOf h0 ho1 (by omega) (by omega) h2 fun w3 h3 => ?_
    have hs : 8 - d = (8 - (d + 1)) + 1 := by omega
    refine ⟨_, _, _, _, _, _, _, _, _, _, _, _, _, rfl, ?_⟩
    refine al h3 fun b2 w4 h4 => ?_
    refine sww h4 rfl rfl trivial fun w5 h5 => ?_
    by_cases hok : (rRowOf two op x d).2 = true
    · refine b_t hok ?_
      iterate 12 refine ⟨_, ld h5 rfl, ?_⟩
      refine sww h5 rfl hc trivial fun w6 h6 => ?_
      iterate 12 refine ⟨_, ld h6 rfl, ?_⟩
      rw [he, hs, rAnyFrom, if_pos hok] at k
      exact k w6 h6.drop.drop
    · refine b_f (by simpa using hok) ⟨⟨d + 1, ?_, by omega, ?_, c, hc, h5.drop⟩, ?_⟩
      · rw [wi64 (by omega) (by omega)]; omega
      · rw [he, hs, rAnyFrom, if_neg hok]
      · simp only []; rw [wi64 (by omega) (by omega)]; omega
  · obtain rfl : d = 8 := by omega
    refine sww h2 rfl hc trivial fun w6 h6 => ?_
    iterate 12 refine ⟨_, ld h6 rfl, ?_⟩
    rw [he] at k
    exact k w6 h6.drop
end Go.Sk
