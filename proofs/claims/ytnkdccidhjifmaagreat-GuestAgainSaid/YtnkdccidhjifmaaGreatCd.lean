/- Contracts of the layer decode (seat Z): rows. -/
import Derived.Test.YtnkdccidhjifmaaGreatNum
import Derived.Test.YtnkdccidhjifmaaGreatOkDe
set_option linter.unusedVariables false
set_option linter.unusedSimpArgs false
namespace Go.Sk
open Go.RowKit Go.Proofs

structure Spec where
  kind : Int
  width : Int
  n : Int
  deriving DecidableEq
def Spec.val (s : Spec) : Value := .agg #[.int .i64 s.kind, .int .i64 s.width, .int .i64 s.n]
def s0 : Spec := ⟨0, 0, 0⟩
structure Row where
  op : Int
  cond : Int
  form : Bool
  a : Spec
  b : Spec
  c : Spec
  deriving DecidableEq
def Row.cells (r : Row) : List Value := [.int .i64 r.op, .int .i64 r.cond, .bool r.form, .int .i64 r.a.kind, .int .i64 r.a.width, .int .i64 r.a.n, .int .i64 r.b.kind, .int .i64 r.b.width, .int .i64 r.b.n, .int .i64 r.c.kind, .int .i64 r.c.width, .int .i64 r.c.n]
def Row.val (r : Row) : Value := .agg r.cells.toArray
def rv (x : Row × Bool) : Value := .tuple #[x.1.val, .bool x.2]
def rForm (op : Int) (a b c : Spec) : Row × Bool := (⟨op, 0, true, a, b, c⟩, op != 0)
def rPlain (op : Int) (a b : Spec) : Row × Bool := (⟨op, 0, false, a, b, s0⟩, true)
def rCond (x : Row × Bool) (n : Int) : Row × Bool := ({ x.1 with cond := n }, x.2)
def rNo : Row × Bool := (⟨0, 0, false, s0, s0, s0⟩, false)
def rWidth (op w : Int) : Int := if op % 2 = 0 then 1 else w
def rSized (op w : Int) : Spec := if op % 2 = 0 then ⟨6, 1, 1⟩ else ⟨6, w, 4⟩
def rAlu (k : Int) : Int := [1, 2, 0, 0, 3, 4, 5, 6].getD k.toNat 0
def rShift (k : Int) : Int := [0, 0, 0, 0, 15, 16, 0, 17].getD k.toNat 0

variable {w0 w : World} {F : Asrt} {R : Ending → World → Prop}
theorem c_width {op x : Int} (ho : 0 ≤ op) (k : R (.returned (.int .i64 (rWidth op x))) w) : Calls Tryz.prog 126 #[.int .i64 op, .int .i64 x] w R := by
  refine ok_decode_width _ _ ?_
  rw [tmod_pos ho]
  unfold rWidth at k
  by_cases h : op % 2 = 0
  · rw [if_pos h] at k; exact b_t (by simpa using h) k
  · rw [if_neg h] at k; exact b_f (by simpa using h) k
theorem c_alu {x : Int} (h0 : 0 ≤ x) (h1 : x < 8) (h : S w0 w F) (k : ∀ w', S w0 w' F → R (.returned (.int .i64 (rAlu x))) w') : Calls Tryz.prog 127 #[.int .i64 x] w R := by
  refine ok_decode_alu _ (al h fun b w1 h1' => ix_mk h0 h1 ?_)
  obtain ⟨i, rfl⟩ : ∃ i : Nat, x = i := ⟨x.toNat, by omega⟩
  have hi : i < 8 := by omega
  refine ⟨rAlu i, ld h1' ?_, k w1 h1'.drop⟩
  rcases i with _ | _ | _ | _ | _ | _ | _ | _ | i <;> first | rfl | omega
theorem c_form {op : Int} {a b c : Spec} (h : S w0 w F) (k : ∀ w', S w0 w' F → R (.returned (rv (rForm op a b c))) w') : Calls Tryz.prog 123 #[.int .i64 op, a.val, b.val, c.val] w R := by
  refine ok_decode_form _ _ _ _ (al h fun b1 w1 h1 => al h1 fun b2 w2 h2 => al h2 fun b3 w3 h3 => al h3 fun b4 w4 h4 => ?_)
  iterate 9 refine ⟨_, ld h4 rfl, ?_⟩
  refine sww h4 rfl rfl trivial fun w5 h5 => ?_
  iterate 12 refine ⟨_, ld h5 rfl, ?_⟩
  exact k w5 h5.drop.drop.drop.drop
theorem c_plain {op : Int} {a b : Spec} (h : S w0 w F) (k : ∀ w', S w0 w' F → R (.returned (rv (rPlain op a b))) w') : Calls Tryz.prog 125 #[.int .i64 op, a.val, b.val] w R := by
  refine ok_decode_plain _ _ _ (al h fun b1 w1 h1 => al h1 fun b2 w2 h2 => al h2 fun b4 w4 h4 => ?_)
  iterate 6 refine ⟨_, ld h4 rfl, ?_⟩
  refine sww h4 rfl rfl trivial fun w5 h5 => ?_
  iterate 12 refine ⟨_, ld h5 rfl, ?_⟩
  exact k w5 h5.drop.drop.drop
theorem c_cond {r : Row} {ok : Bool} {n : Int} (h : S w0 w F) (k : ∀ w', S w0 w' F → R (.returned (rv (rCond (r, ok) n))) w') : Calls Tryz.prog 124 #[r.val, .bool ok, .int .i64 n] w R := by
  refine ok_decode_cond _ _ _ (al h fun b1 w1 h1 => al h1 fun b2 w2 h2 => ?_)
  refine st h2 rfl fun w3 h3 => ?_
  iterate 12 refine ⟨_, ld h3 rfl, ?_⟩
  refine sww h3 rfl rfl trivial fun w5 h5 => ?_
  iterate 12 refine ⟨_, ld h5 rfl, ?_⟩
  exact k w5 h5.drop.drop
theorem c_sized {op x : Int} (ho : 0 ≤ op) (h : S w0 w F) (k : ∀ w', S w0 w' F → R (.returned (rSized op x).val) w') : Calls Tryz.prog 128 #[.int .i64 op, .int .i64 x] w R := by
  refine ok_decode_sized _ _ (al h fun b1 w1 h1 => ?_)
  rw [tmod_pos ho]
  unfold rSized at k
  by_cases hm : op % 2 = 0
  · rw [if_pos hm] at k
    refine b_t (by simpa using hm) (sww h1 rfl rfl trivial fun w5 h5 => ?_)
    iterate 3 refine ⟨_, ld h5 rfl, ?_⟩
    exact k w5 h5.drop
  · rw [if_neg hm] at k
    refine b_f (by simpa using hm) (sww h1 rfl rfl trivial fun w5 h5 => ?_)
    iterate 3 refine ⟨_, ld h5 rfl, ?_⟩
    exact k w5 h5.drop
theorem c_shift {x : Int} (h0 : 0 ≤ x) (h1 : x < 8) (h : S w0 w F) (k : ∀ w', S w0 w' F → R (.returned (.int .i64 (rShift x))) w') : Calls Tryz.prog 129 #[.int .i64 x] w R := by
  refine ok_decode_shift _ (al h fun b w1 h1' => ix_mk h0 h1 ?_)
  obtain ⟨i, rfl⟩ : ∃ i : Nat, x = i := ⟨x.toNat, by omega⟩
  have hi : i < 8 := by omega
  refine ⟨rShift i, ld h1' ?_, k w1 h1'.drop⟩
  rcases i with _ | _ | _ | _ | _ | _ | _ | _ | i <;> first | rfl | omega

/-- A row is handed on. -/
theorem leafRow {A : Asrt} {b : Nat} {c : Array Value} {f : Obj → Asrt} {x : Row × Bool} (h : S w0 w A) [hA : At A b (.cells c 146 (0, 0)) f] (hs : Nat.beq c.size 12 = true) (k : ∀ w', S w0 w' (f (.cells x.1.cells.toArray 146 (0, 0))) → R (.returned (rv x)) w') :
    ∃ x0 : Int, ∃ x1 : Int, ∃ x2 : Bool, ∃ x3 : Int, ∃ x4 : Int, ∃ x5 : Int, ∃ x6 : Int, ∃ x7 : Int, ∃ x8 : Int, ∃ x9 : Int, ∃ x10 : Int, ∃ x11 : Int, ∃ x12 : Bool, Ending.returned (rv x) = .returned (.tuple #[(.agg #[(.int .i64 x0), (.int .i64 x1), (.bool x2), (.int .i64 x3), (.int .i64 x4), (.int .i64 x5), (.int .i64 x6), (.int .i64 x7), (.int .i64 x8), (.int .i64 x9), (.int .i64 x10), (.int .i64 x11)]), (.bool x12)]) ∧ sts w (⟨b, 0, none⟩ : Addr) 12 [(.int .i64 x0), (.int .i64 x1), (.bool x2), (.int .i64 x3), (.int .i64 x4), (.int .i64 x5), (.int .i64 x6), (.int .i64 x7), (.int .i64 x8), (.int .i64 x9), (.int .i64 x10), (.int .i64 x11)] (fun w' => ∃ q0 : Int, w'.cell? (⟨b, 0, none⟩ : Addr) = some (.int .i64 q0) ∧ ∃ q1 : Int, w'.cell? (⟨b, 1, none⟩ : Addr) = some (.int .i64 q1) ∧ ∃ q2 : Bool, w'.cell? (⟨b, 2, none⟩ : Addr) = some (.bool q2) ∧ ∃ q3 : Int, w'.cell? (⟨b, 3, none⟩ : Addr) = some (.int .i64 q3) ∧ ∃ q4 : Int, w'.cell? (⟨b, 4, none⟩ : Addr) = some (.int .i64 q4) ∧ ∃ q5 : Int, w'.cell? (⟨b, 5, none⟩ : Addr) = some (.int .i64 q5) ∧ ∃ q6 : Int, w'.cell? (⟨b, 6, none⟩ : Addr) = some (.int .i64 q6) ∧ ∃ q7 : Int, w'.cell? (⟨b, 7, none⟩ : Addr) = some (.int .i64 q7) ∧ ∃ q8 : Int, w'.cell? (⟨b, 8, none⟩ : Addr) = some (.int .i64 q8) ∧ ∃ q9 : Int, w'.cell? (⟨b, 9, none⟩ : Addr) = some (.int .i64 q9) ∧ ∃ q10 : Int, w'.cell? (⟨b, 10, none⟩ : Addr) = some (.int .i64 q10) ∧ ∃ q11 : Int, w'.cell? (⟨b, 11, none⟩ : Addr) = some (.int .i64 q11) ∧ R (.returned (.tuple #[(.agg #[(.int .i64 q0), (.int .i64 q1), (.bool q2), (.int .i64 q3), (.int .i64 q4), (.int .i64 q5), (.int .i64 q6), (.int .i64 q7), (.int .i64 q8), (.int .i64 q9), (.int .i64 q10), (.int .i64 q11)]), (.bool x12)])) w') := by
  refine ⟨_, _, _, _, _, _, _, _, _, _, _, _, _, rfl, sww h rfl hs trivial fun w5 h5 => ?_⟩
  have hA' : At (f (.cells x.1.cells.toArray 146 (0, 0))) b (.cells x.1.cells.toArray 146 (0, 0)) f := ⟨rfl, hA.sp⟩
  iterate 12 refine ⟨_, ld (hA := hA') h5 rfl, ?_⟩
  exact k w5 h5

def rFirst (op w : Int) : Row × Bool :=
  let v := rWidth op w
  let e : Spec := ⟨1, v, 0⟩
  let g : Spec := ⟨2, v, 0⟩
  if op < 64 ∧ op % 8 < 2 then rForm (rAlu (op / 8)) e g s0
  else if op < 64 ∧ op % 8 < 4 then rForm (rAlu (op / 8)) g e s0
  else if op < 64 ∧ op % 8 < 6 then (let r := rPlain (rAlu (op / 8)) ⟨5, v, 0⟩ (rSized op w); (r.1, r.2 && r.1.op != 0))
  else if op ≥ 80 ∧ op < 88 then rPlain 18 ⟨4, 8, 0⟩ s0
  else if op ≥ 88 ∧ op < 96 then rPlain 19 ⟨4, 8, 0⟩ s0
  else if op = 99 ∧ w = 8 then rForm 27 ⟨2, 8, 0⟩ ⟨1, 4, 0⟩ s0
  else if op = 104 then rPlain 18 ⟨6, 8, 4⟩ s0
  else if op = 106 then rPlain 18 ⟨6, 8, 1⟩ s0
  else if op = 105 then rForm 14 ⟨2, w, 0⟩ ⟨1, w, 0⟩ ⟨6, w, 4⟩
  else if op = 107 then rForm 14 ⟨2, w, 0⟩ ⟨1, w, 0⟩ ⟨6, w, 1⟩
  else if op ≥ 112 then rCond (rPlain 22 ⟨6, 8, 1⟩ s0) (op % 16)
  else rNo
theorem c_first {op x : Int} (h0 : 0 ≤ op) (h1 : op < 128) (h : S w0 w F) (k : ∀ w', S w0 w' F → R (.returned (rv (rFirst op x))) w') : Calls Tryz.prog 93 #[.int .i64 op, .int .i64 x] w R := by
  refine ok_decode_first _ _ (al h fun b1 w1 h1 => c_width h0 ⟨_, rfl, al h1 fun b2 w2 h2 => sww h2 rfl rfl trivial fun w3 h3 => al h3 fun b3 w4 h4 => sww h4 rfl rfl trivial fun w5 h5 => ?_⟩)
  rw [tdiv_pos h0, wi64 (x := op / 8) (by omega) (by omega), tmod_pos h0]
  refine jAnd ?_
  by_cases c1 : op < 64 ∧ op % 8 < 2
  · simp only [rFirst, if_pos c1] at k
    refine b_t (by simpa using c1) (dr h5 fun w6 h6 => ?_)
    iterate 6 refine ⟨_, ld h6 rfl, ?_⟩
    refine c_alu (by omega) (by omega) h6 fun w7 h7 => ⟨_, rfl, ?_⟩
    iterate 3 refine ⟨_, ld h7 rfl, ?_⟩
    refine ⟨rfl, ?_⟩
    iterate 3 refine ⟨_, ld h7 rfl, ?_⟩
    refine ⟨rfl, rfl, ?_⟩
    refine c_form (a := ⟨1, rWidth op x, 0⟩) (b := ⟨2, rWidth op x, 0⟩) (c := s0) h7 fun w8 h8 => ?_
    exact leafRow h8 rfl fun w9 h9 => k w9 h9.drop.drop.drop
  refine b_f (by simpa using c1) (jAnd ?_)
  by_cases c2 : op < 64 ∧ op % 8 < 4
  · simp only [rFirst, if_neg c1, if_pos c2] at k
    refine b_t (by simpa using c2) (dr h5 fun w6 h6 => ?_)
    iterate 6 refine ⟨_, ld h6 rfl, ?_⟩
    refine c_alu (by omega) (by omega) h6 fun w7 h7 => ⟨_, rfl, ?_⟩
    iterate 3 refine ⟨_, ld h7 rfl, ?_⟩
    refine ⟨rfl, ?_⟩
    iterate 3 refine ⟨_, ld h7 rfl, ?_⟩
    refine ⟨rfl, rfl, ?_⟩
    refine c_form (a := ⟨2, rWidth op x, 0⟩) (b := ⟨1, rWidth op x, 0⟩) (c := s0) h7 fun w8 h8 => ?_
    exact leafRow h8 rfl fun w9 h9 => k w9 h9.drop.drop.drop
  refine b_f (by simpa using c2) (jAnd ?_)
  by_cases c3 : op < 64 ∧ op % 8 < 6
  · simp only [rFirst, if_neg c1, if_neg c2, if_pos c3] at k
    refine b_t (by simpa using c3) ?_
    refine c_alu (by omega) (by omega) h5 fun w6 h6 => ⟨_, rfl, ?_⟩
    refine c_sized h0 h6 fun w7 h7 => ⟨_, _, _, rfl, ?_⟩
    refine c_plain (a := ⟨5, rWidth op x, 0⟩) (b := rSized op x) h7 fun w8 h8 => ⟨_, _, _, _, _, _, _, _, _, _, _, _, _, rfl, ?_⟩
    refine al h8 fun b4 w9 h9 => ?_
    refine sww h9 rfl rfl trivial fun w10 h10 => ?_
    refine ⟨fun y w' => y = (rAlu (op / 8) != 0) ∧ S w0 w' (pts b1 (.cells (Row.cells (rPlain (rAlu (op / 8)) ⟨5, rWidth op x, 0⟩ (rSized op x)).1).toArray 146 (0, 0)) * F), ?_, ?_⟩
    · refine dr h10 fun w11 h11 => ?_
      iterate 12 refine ⟨_, ld h11 rfl, ?_⟩
      refine b_t rfl ⟨_, ld h11 rfl, ?_⟩
      refine sww h11 rfl rfl trivial fun w12 h12 => ?_
      exact ⟨_, ld h12 rfl, rfl, rfl, rfl, rfl, h12.drop.drop.drop⟩
    · rintro _ y w12 ⟨rfl, h12⟩
      iterate 12 refine ⟨_, ld h12 rfl, ?_⟩
      exact k w12 h12.drop
  refine b_f (by simpa using c3) (jAnd ?_)
  by_cases c4 : op ≥ 80 ∧ op < 88
  · simp only [rFirst, if_neg c1, if_neg c2, if_neg c3, if_pos c4] at k
    refine b_t (by simpa using c4) ?_
    refine c_plain (a := ⟨4, 8, 0⟩) (b := s0) h5 fun w8 h8 => ?_
    exact leafRow h8 rfl fun w9 h9 => k w9 h9.drop.drop.drop
  refine b_f (by simpa using c4) (jAnd ?_)
  by_cases c5 : op ≥ 88 ∧ op < 96
  · simp only [rFirst, if_neg c1, if_neg c2, if_neg c3, if_neg c4, if_pos c5] at k
    refine b_t (by simpa using c5) ?_
    refine c_plain (a := ⟨4, 8, 0⟩) (b := s0) h5 fun w8 h8 => ?_
    exact leafRow h8 rfl fun w9 h9 => k w9 h9.drop.drop.drop
  refine b_f (by simpa using c5) (jAnd ?_)
  by_cases c6 : op = 99 ∧ x = 8
  · simp only [rFirst, if_neg c1, if_neg c2, if_neg c3, if_neg c4, if_neg c5, if_pos c6] at k
    refine b_t (by simpa using c6) ?_
    refine c_form (a := ⟨2, 8, 0⟩) (b := ⟨1, 4, 0⟩) (c := s0) h5 fun w8 h8 => ?_
    exact leafRow h8 rfl fun w9 h9 => k w9 h9.drop.drop.drop
  refine b_f (by simpa using c6) ?_
  by_cases c7 : op = 104
  · simp only [rFirst, if_neg c1, if_neg c2, if_neg c3, if_neg c4, if_neg c5, if_neg c6, if_pos c7] at k
    refine b_t (by simpa using c7) ?_
    refine c_plain (a := ⟨6, 8, 4⟩) (b := s0) h5 fun w8 h8 => ?_
    exact leafRow h8 rfl fun w9 h9 => k w9 h9.drop.drop.drop
  refine b_f (by simpa using c7) ?_
  by_cases c8 : op = 106
  · simp only [rFirst, if_neg c1, if_neg c2, if_neg c3, if_neg c4, if_neg c5, if_neg c6, if_neg c7, if_pos c8] at k
    refine b_t (by simpa using c8) ?_
    refine c_plain (a := ⟨6, 8, 1⟩) (b := s0) h5 fun w8 h8 => ?_
    exact leafRow h8 rfl fun w9 h9 => k w9 h9.drop.drop.drop
  refine b_f (by simpa using c8) ?_
  by_cases c9 : op = 105
  · simp only [rFirst, if_neg c1, if_neg c2, if_neg c3, if_neg c4, if_neg c5, if_neg c6, if_neg c7, if_neg c8, if_pos c9] at k
    refine b_t (by simpa using c9) ?_
    refine c_form (a := ⟨2, x, 0⟩) (b := ⟨1, x, 0⟩) (c := ⟨6, x, 4⟩) h5 fun w8 h8 => ?_
    exact leafRow h8 rfl fun w9 h9 => k w9 h9.drop.drop.drop
  refine b_f (by simpa using c9) ?_
  by_cases c10 : op = 107
  · simp only [rFirst, if_neg c1, if_neg c2, if_neg c3, if_neg c4, if_neg c5, if_neg c6, if_neg c7, if_neg c8, if_neg c9, if_pos c10] at k
    refine b_t (by simpa using c10) ?_
    refine c_form (a := ⟨2, x, 0⟩) (b := ⟨1, x, 0⟩) (c := ⟨6, x, 1⟩) h5 fun w8 h8 => ?_
    exact leafRow h8 rfl fun w9 h9 => k w9 h9.drop.drop.drop
  refine b_f (by simpa using c10) ?_
  by_cases c11 : op ≥ 112
  · simp only [rFirst, if_neg c1, if_neg c2, if_neg c3, if_neg c4, if_neg c5, if_neg c6, if_neg c7, if_neg c8, if_neg c9, if_neg c10, if_pos c11] at k
    refine b_t (by simpa using c11) ?_
    rw [tmod_pos (x := op) (k := 16) h0]
    refine c_plain (a := ⟨6, 8, 1⟩) (b := s0) h5 fun w8 h8 => ⟨_, _, _, _, _, _, _, _, _, _, _, _, _, rfl, ?_⟩
    refine al h8 fun b4 w9 h9 => ?_
    refine sww h9 rfl rfl trivial fun w10 h10 => ?_
    iterate 12 refine ⟨_, ld h10 rfl, ?_⟩
    refine c_cond (r := (rPlain 22 ⟨6, 8, 1⟩ s0).1) h10 fun w11 h11 => ?_
    exact leafRow h11 rfl fun w12 h12 => k w12 h12.drop.drop.drop.drop
  · simp only [rFirst, if_neg c1, if_neg c2, if_neg c3, if_neg c4, if_neg c5, if_neg c6, if_neg c7, if_neg c8, if_neg c9, if_neg c10, if_neg c11] at k
    refine b_f (by simpa using c11) ?_
    refine sww h5 rfl rfl trivial fun w12 h12 => ?_
    iterate 12 refine ⟨_, ld h12 rfl, ?_⟩
    exact k w12 h12.drop.drop.drop
end Go.Sk
