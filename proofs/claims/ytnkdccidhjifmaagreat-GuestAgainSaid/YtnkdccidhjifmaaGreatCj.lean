/- Contracts of the layer decode (seat Z): nop, Decode. -/
import Derived.Test.YtnkdccidhjifmaaGreatCi
import Derived.Test.YtnkdccidhjifmaaGreatOkDf
set_option linter.unusedVariables false
set_option linter.unusedSimpArgs false
namespace Go.Sk
open Go.RowKit Go.Proofs
variable {w0 w : World} {F : Asrt} {R : Ending → World → Prop}
structure Ins where
  op : Int
  size : Int
  cond : Int
  a : Opn
  b : Opn
  c : Opn
  deriving DecidableEq
def Ins.cells (i : Ins) : List Value := [.int .i64 i.op, .int .i64 i.size, .int .i64 i.cond,
  .int .i64 i.a.kind, .int .i64 i.a.reg, .int .i64 i.a.width, .int .i64 i.a.imm, .int .i64 i.a.base, .int .i64 i.a.index, .int .i64 i.a.scale, .int .i64 i.a.disp, .bool i.a.next, .bool i.a.seg,
  .int .i64 i.b.kind, .int .i64 i.b.reg, .int .i64 i.b.width, .int .i64 i.b.imm, .int .i64 i.b.base, .int .i64 i.b.index, .int .i64 i.b.scale, .int .i64 i.b.disp, .bool i.b.next, .bool i.b.seg,
  .int .i64 i.c.kind, .int .i64 i.c.reg, .int .i64 i.c.width, .int .i64 i.c.imm, .int .i64 i.c.base, .int .i64 i.c.index, .int .i64 i.c.scale, .int .i64 i.c.disp, .bool i.c.next, .bool i.c.seg]
def Ins.val (i : Ins) : Value := .agg i.cells.toArray
def nopStep (l : List Int) (s : Rd) (c : Int) : Rd := if (nxt l s).1 = c then (nxt l s).2 else failS (nxt l s).2
def nopFrom (l : List Int) : Nat → Nat → Rd → Rd
  | 0, _, s => s
  | n + 1, i, s => nopFrom l n (i + 1) (nopStep l s ([15, 30, 250].getD i 0))
def rNop (l : List Int) (s : Rd) : Rd := nopFrom l 3 0 s
theorem c_nop {T : TypeId} {b : Nat} {l : List Int} {s : Rd} (hl : isBytes l) (h : S w0 w (rdA T b l s * F)) (k : ∀ w', S w0 w' (rdA T b l (rNop l s) * F) → R (.returned (Ins.val ⟨29, 4, 0, o0, o0, o0⟩)) w') :
    Calls Tryz.prog 55 #[.pointer (some ⟨b, 0, none⟩)] w R := by
  refine ok_decode_reader_nop _ (al h fun b1 w1 h1 => al h1 fun b3 w3 h3 => ?_)
  have hd : S w0 w3 (rdA T b l s * (pts b3 (.cells #[.int .i64 15, .int .i64 30, .int .i64 250] 3 (0, 0)) * (pts b1 (.cells (Ins.cells ⟨0, 0, 0, o0, o0, o0⟩).toArray 65 (0, 0)) * F))) := h3.eq (by show _ * (pts b1 (.cells (Ins.cells ⟨0, 0, 0, o0, o0, o0⟩).toArray 65 (0, 0)) * _) = _; ac_rfl)
  refine ⟨fun y w' => ∃ (i : Nat) (s' : Rd), y = i ∧ i ≤ 3 ∧ rNop l s = nopFrom l (3 - i) i s' ∧ S w0 w' (rdA T b l s' * (pts b3 (.cells #[.int .i64 15, .int .i64 30, .int .i64 250] 3 (0, 0)) * (pts b1 (.cells (Ins.cells ⟨0, 0, 0, o0, o0, o0⟩).toArray 65 (0, 0)) * F))), fun y _ => (3 - y).toNat, ⟨0, s, rfl, by omega, rfl, hd⟩, ?_⟩
  rintro _ y w4 ⟨i, s', rfl, hi, he, h4⟩
  refine dc (fun hlt => ?_) (fun hlt => ?_)
  · have hg : (#[(.int .i64 15), (.int .i64 30), (.int .i64 250)] : Array Value)[0 + (i : Int).toNat * 1]? = some (.int .i64 ([15, 30, 250].getD i 0)) := by
      have : i = 0 ∨ i = 1 ∨ i = 2 := by omega
      rcases this with rfl | rfl | rfl <;> rfl
    refine ⟨fun w' => S w0 w' (rdA T b l (nopStep l s' ([15, 30, 250].getD i 0)) * (pts b3 (.cells #[.int .i64 15, .int .i64 30, .int .i64 250] 3 (0, 0)) * (pts b1 (.cells (Ins.cells ⟨0, 0, 0, o0, o0, o0⟩).toArray 65 (0, 0)) * F))), ?_, ?_⟩
    · refine dr h4 fun w5 h5 => ix_mk (by omega) (by omega) ⟨_, ld h5 hg, c_next hl h5 fun w6 h6 => ⟨_, rfl, ix_mk (by omega) (by omega) ⟨rfl, _, ld h6 hg, rfl, ?_⟩⟩⟩
      by_cases c : (nxt l s').1 = [15, 30, 250].getD i 0
      · rw [nopStep, if_pos c]
        exact b_f (by simp [c]) h6
      · rw [nopStep, if_neg c]
        exact b_t (by simpa using c) (c_fail h6 fun w7 h7 => ⟨rfl, h7⟩)
    · rintro _ w7 h7
      refine ⟨⟨i + 1, nopStep l s' ([15, 30, 250].getD i 0), ?_, by omega, ?_, h7⟩, ?_⟩
      · rw [wi64 (by omega) (by omega)]; omega
      · have hs : 3 - i = (3 - (i + 1)) + 1 := by omega
        rw [he, hs, nopFrom]
      · simp only []; rw [wi64 (by omega) (by omega)]; omega
  · obtain rfl : i = 3 := by omega
    have h5 : S w0 w4 (pts b1 (.cells (Ins.cells ⟨0, 0, 0, o0, o0, o0⟩).toArray 65 (0, 0)) * (pts b3 (.cells #[.int .i64 15, .int .i64 30, .int .i64 250] 3 (0, 0)) * (rdA T b l s' * F))) := h4.eq (by ac_rfl)
    refine sww h5 rfl rfl trivial fun w6 h6 => ?_
    iterate 33 refine ⟨_, ld h6 rfl, ?_⟩
    refine k w6 ?_
    rw [he]
    exact h6.drop.drop
end Go.Sk
