/- Contracts of the layer decode (seat Z): the reader. -/
import Derived.Test.YtnkdccidhjifmaaGreatCf
set_option linter.unusedVariables false
set_option linter.unusedSimpArgs false
namespace Go.Sk
open Go.RowKit Go.Proofs
variable {w0 w : World} {F : Asrt} {R : Ending → World → Prop}
structure Opn where
  kind : Int
  reg : Int
  width : Int
  imm : Int
  base : Int
  index : Int
  scale : Int
  disp : Int
  next : Bool
  seg : Bool
  deriving DecidableEq
def Opn.cells (o : Opn) : List Value := [.int .i64 o.kind, .int .i64 o.reg, .int .i64 o.width, .int .i64 o.imm, .int .i64 o.base, .int .i64 o.index, .int .i64 o.scale, .int .i64 o.disp, .bool o.next, .bool o.seg]
def Opn.val (o : Opn) : Value := .agg o.cells.toArray
def o0 : Opn := ⟨0, 0, 0, 0, 0, 0, 0, 0, false, false⟩
def badV : Option Int → Value
  | none => .nilIface
  | some c => .iface 37 (.int .i64 c)
structure Rd where
  a : Option Addr
  n : Nat
  c : Nat
  at' : Nat
  bad : Option Int
  seg : Bool
  ext : Bool
  rex : Int
  form : Int
  mem : Opn
def Rd.cells (s : Rd) : Array Value := #[.slice s.a s.n s.c, .int .i64 (s.at' : Int), badV s.bad, .bool s.seg, .bool s.ext, .int .i64 s.rex, .int .i64 s.form, .int .i64 s.mem.kind, .int .i64 s.mem.reg, .int .i64 s.mem.width, .int .i64 s.mem.imm, .int .i64 s.mem.base, .int .i64 s.mem.index, .int .i64 s.mem.scale, .int .i64 s.mem.disp, .bool s.mem.next, .bool s.mem.seg]
/-- A reader at a block, over some bytes. -/
def rdA (T : TypeId) (b : Nat) (l : List Int) (s : Rd) : Asrt := pts b (.cells s.cells T (0, 0)) * slA 5 (u8s' l) s.a s.n s.c
where u8s' (l : List Int) : List Value := l.map (Value.int .u8)
def nxt (l : List Int) (s : Rd) : Int × Rd :=
  if s.bad.isSome then (0, s) else if l.length ≤ s.at' then (0, { s with bad := some 4 }) else (l.getD s.at' 0, { s with at' := s.at' + 1 })
def isBytes (l : List Int) : Prop := l.length ≤ 100000 ∧ ∀ x ∈ l, 0 ≤ x ∧ x < 256
theorem slA_rd' {e : TypeId} {l : List Value} {a : Option Addr} {n c : Nat} {G : Asrt} (h : S w0 w (slA e l a n c * G)) {i : Nat} (hi : i < l.length) : ∃ ad, a = some ad ∧ w.cell? (ad.add i) = l[i]? := by
  rcases slA_cases h.sat with ⟨_, _, _, rfl, _⟩ | ⟨g, rest, rfl, _, _, _, h2⟩
  · simp at hi
  · refine ⟨_, rfl, ?_⟩
    rw [Addr.add_lit, cellS h2]
    simp [List.getElem?_append_left hi]
theorem slA_len' {e : TypeId} {l : List Value} {a : Option Addr} {n c : Nat} {G : Asrt} (h : S w0 w (slA e l a n c * G)) : n = l.length := by
  rcases slA_cases h.sat with ⟨_, rfl, _, rfl, _⟩ | ⟨_, _, _, h, _⟩
  · rfl
  · exact h
theorem getD_mem {l : List Int} {i : Nat} (h : i < l.length) : l.getD i 0 ∈ l := by
  simp [List.getD_eq_getElem?_getD, h]
theorem c_next {T : TypeId} {b : Nat} {l : List Int} {s : Rd} (hl : isBytes l) (h : S w0 w (rdA T b l s * F)) (k : ∀ w', S w0 w' (rdA T b l (nxt l s).2 * F) → R (.returned (.int .i64 (nxt l s).1)) w') :
    Calls Tryz.prog 60 #[.pointer (some ⟨b, 0, none⟩)] w R := by
  refine ok_decode_source_next _ ?_
  obtain ⟨a, n, c, at', bad, seg, ext, rex, form, mem⟩ := s
  have h1 : S w0 w (pts b (.cells (Rd.cells ⟨a, n, c, at', bad, seg, ext, rex, form, mem⟩) T (0, 0)) * (slA 5 (rdA.u8s' l) a n c * F)) := h.eq (by unfold rdA; rw [mulA])
  refine ⟨_, ld h1 rfl, ?_⟩
  cases bad with
  | some e =>
    refine nq_if (b_t rfl ?_)
    exact k w h
  | none =>
    refine nq_nil (b_f rfl (dr h1 fun w2 h2 => ⟨_, ld h2 rfl, _, _, _, ld h2 rfl, ?_⟩))
    obtain rfl : n = l.length := by have := slA_len' (h2.eq (mulC _ _ |>.trans (mulA _ _ _)) ); simpa [rdA.u8s'] using this
    by_cases hat : l.length ≤ at'
    · refine dt (show (at' : Int) ≥ (l.length : Int) by omega) (st h2 rfl fun w3 h3 => ?_)
      simp only [nxt, Option.isSome, hat, if_true] at k
      exact k w3 (h3.eq (by unfold rdA; rw [mulA]; rfl))
    · refine df (show ¬ (at' : Int) ≥ (l.length : Int) by omega) ⟨_, ld h2 rfl, st h2 rfl fun w3 h3 => dr h3 fun w4 h4 => ⟨_, _, _, ld h4 rfl, _, ld h4 rfl, ?_⟩⟩
      have e1 : IntKind.i64.wrap ((at' : Int) + 1) = ((at' + 1 : Nat) : Int) := by have := hl.1; rw [wi64 (by omega) (by omega)]; omega
      simp only [e1] at h4 ⊢
      have e2 : IntKind.i64.wrap (((at' + 1 : Nat) : Int) - 1) = (at' : Int) := by have := hl.1; rw [wi64 (by omega) (by omega)]; omega
      rw [e2]
      obtain ⟨ad, rfl, hc⟩ := slA_rd' (h4.eq (mulC _ _ |>.trans (mulA _ _ _))) (i := at') (by simp [rdA.u8s']; omega)
      refine ix_mk (by omega) (by omega) ⟨l.getD at' 0, ?_, ?_⟩
      · rw [Int.toNat_natCast, Nat.mul_one, hc]
        simp [rdA.u8s', List.getD_eq_getElem?_getD, (by omega : at' < l.length)]
      · have hb := hl.2 _ (getD_mem (l := l) (i := at') (by omega))
        rw [wi64 (by omega) (by omega)]
        simp only [nxt, Option.isSome, hat, if_false] at k
        exact k w4 (h4.eq (by unfold rdA; rw [mulA]; rfl))
theorem c_fail {T : TypeId} {b : Nat} {l : List Int} {s : Rd} (h : S w0 w (rdA T b l s * F)) (k : ∀ w', S w0 w' (rdA T b l { s with bad := some (s.bad.getD 13) } * F) → R (.returned (.tuple #[])) w') :
    Calls Tryz.prog 62 #[.pointer (some ⟨b, 0, none⟩)] w R := by
  refine ok_decode_source_fail _ ?_
  obtain ⟨a, n, c, at', bad, seg, ext, rex, form, mem⟩ := s
  have h1 : S w0 w (pts b (.cells (Rd.cells ⟨a, n, c, at', bad, seg, ext, rex, form, mem⟩) T (0, 0)) * (slA 5 (rdA.u8s' l) a n c * F)) := h.eq (by unfold rdA; rw [mulA])
  refine ⟨_, ld h1 rfl, ?_⟩
  cases bad with
  | some e => exact nq_if (b_f rfl (k w h))
  | none => exact nq_nil (b_t rfl (st h1 rfl fun w3 h3 => k w3 (h3.eq (by unfold rdA; rw [mulA]; rfl))))
def rBit (rex n : Int) : Int := if rex / n % 2 = 1 then 8 else 0
theorem c_bit {T : TypeId} {b : Nat} {l : List Int} {s : Rd} {n : Int} (hn : 0 < n) (hn2 : n ≤ 8) (hr : 0 ≤ s.rex) (hr2 : s.rex < 16) (h : S w0 w (rdA T b l s * F)) (k : R (.returned (.int .i64 (rBit s.rex n))) w) :
    Calls Tryz.prog 57 #[.pointer (some ⟨b, 0, none⟩), .int .i64 n] w R := by
  refine ok_decode_reader_bit _ _ ?_
  have h1 : S w0 w (pts b (.cells s.cells T (0, 0)) * (slA 5 (rdA.u8s' l) s.a s.n s.c * F)) := h.eq (by unfold rdA; rw [mulA])
  refine ⟨_, ld h1 rfl, by omega, ?_⟩
  have hd : 0 ≤ s.rex / n := Int.ediv_nonneg hr (by omega)
  have hd2 : s.rex / n ≤ s.rex := Int.ediv_le_self _ hr
  rw [tdiv_pos hr, wi64 (by omega) (by omega), tmod_pos hd]
  unfold rBit at k
  by_cases hb : s.rex / n % 2 = 1
  · rw [if_pos hb] at k; exact b_t (by simpa using hb) k
  · rw [if_neg hb] at k; exact b_f (by simpa using hb) k

def failS (s : Rd) : Rd := { s with bad := some (s.bad.getD 13) }
def rReg (s : Rd) (n x : Int) : Opn × Rd := (⟨1, n, x, 0, 0, 0, 0, 0, false, false⟩, if x = 1 ∧ 4 ≤ n ∧ n ≤ 7 ∧ s.ext = false then failS s else s)
theorem c_register {T : TypeId} {b : Nat} {l : List Int} {s : Rd} {n x : Int} (h : S w0 w (rdA T b l s * F)) (k : ∀ w', S w0 w' (rdA T b l (rReg s n x).2 * F) → R (.returned (rReg s n x).1.val) w') :
    Calls Tryz.prog 59 #[.pointer (some ⟨b, 0, none⟩), .int .i64 n, .int .i64 x] w R := by
  refine ok_decode_reader_register _ _ _ (al h fun b1 w1 h1 => ?_)
  have h2 : S w0 w1 (pts b (.cells s.cells T (0, 0)) * (slA 5 (rdA.u8s' l) s.a s.n s.c * (pts b1 (.cells #[.int .i64 0, .int .i64 0, .int .i64 0, .int .i64 0, .int .i64 0, .int .i64 0, .int .i64 0, .int .i64 0, .bool false, .bool false] 61 (0, 0)) * F))) := h1.eq (by unfold rdA; ac_rfl)
  refine ⟨fun y w' => y = decide (x = 1 ∧ 4 ≤ n ∧ n ≤ 7 ∧ s.ext = false) ∧ w' = w1, ?_, ?_⟩
  · by_cases c1 : x = 1
    · refine b_t (by simpa using c1) (dc (fun c2 => dc (fun c3 => ⟨_, ld h2 rfl, ?_, rfl⟩) (fun c3 => ⟨?_, rfl⟩)) (fun c2 => ⟨?_, rfl⟩))
      · have c2' : 4 ≤ n := c2
        cases s.ext <;> simp [c1, c2', c3]
      · simp [c3]
      · have c2' : ¬ 4 ≤ n := c2
        simp [c2']
    · exact b_f (by simpa using c1) ⟨by simp [c1], rfl⟩
  rintro _ y w2 ⟨rfl, rfl⟩
  refine ⟨fun w' => S w0 w' (rdA T b l (rReg s n x).2 * (pts b1 (.cells #[.int .i64 0, .int .i64 0, .int .i64 0, .int .i64 0, .int .i64 0, .int .i64 0, .int .i64 0, .int .i64 0, .bool false, .bool false] 61 (0, 0)) * F)), ?_, ?_⟩
  · unfold rReg
    by_cases c : x = 1 ∧ 4 ≤ n ∧ n ≤ 7 ∧ s.ext = false
    · rw [if_pos c]
      refine dt c (c_fail (h1.eq (mulL _ _ _)) fun w3 h3 => ⟨rfl, h3⟩)
    · rw [if_neg c]
      exact df c (h1.eq (mulL _ _ _))
  · rintro _ w3 h3
    have h4 : S w0 w3 (pts b1 (.cells #[.int .i64 0, .int .i64 0, .int .i64 0, .int .i64 0, .int .i64 0, .int .i64 0, .int .i64 0, .int .i64 0, .bool false, .bool false] 61 (0, 0)) * (rdA T b l (rReg s n x).2 * F)) := h3.eq (mulL _ _ _)
    refine sww h4 rfl rfl trivial fun w4 h5 => ?_
    iterate 10 refine ⟨_, ld h5 rfl, ?_⟩
    exact k w4 h5.drop
def numLoop (l : List Int) : Nat → Nat → Int → Rd → Int × Rd
  | 0, _, v, s => (v, s)
  | n + 1, i, v, s => numLoop l n (i + 1) (bOr .u64 v (shlI .u64 (IntKind.u64.wrap (nxt l s).1) (8 * (i : Int)))) (nxt l s).2
def numV (v : Int) (n : Nat) : Int := shrI .i64 (IntKind.i64.wrap (shlI .u64 v (64 - 8 * (n : Int)))) (64 - 8 * (n : Int))
def rNum (l : List Int) (s : Rd) (n : Nat) : Int × Rd := (numV (numLoop l n 0 0 s).1 n, (numLoop l n 0 0 s).2)
theorem c_number {T : TypeId} {b : Nat} {l : List Int} {s : Rd} {n : Nat} (hl : isBytes l) (hn : n ≤ 8) (h : S w0 w (rdA T b l s * F)) (k : ∀ w', S w0 w' (rdA T b l (rNum l s n).2 * F) → R (.returned (.int .i64 (rNum l s n).1)) w') :
    Calls Tryz.prog 95 #[.pointer (some ⟨b, 0, none⟩), .int .i64 (n : Int)] w R := by
  refine ok_decode_source_number _ _ ?_
  refine ⟨fun v y w' => ∃ (i : Nat) (s' : Rd), y = i ∧ i ≤ n ∧ numLoop l n 0 0 s = numLoop l (n - i) i v s' ∧ S w0 w' (rdA T b l s' * F), fun _ y _ => (n - y).toNat, ⟨0, s, rfl, by omega, rfl, h⟩, ?_⟩
  rintro _ v y w1 ⟨i, s', rfl, hi, he, h1⟩
  refine dc (fun hlt => ?_) (fun hlt => ?_)
  · refine c_next hl h1 fun w2 h2 => ?_
    rw [wi64 (x := 8 * (i : Int)) (by omega) (by omega), wi64 (x := (i : Int) + 1) (by omega) (by omega)]
    refine ⟨_, rfl, by omega, ⟨i + 1, (nxt l s').2, by omega, by omega, ?_, h2⟩, by simp only []; omega⟩
    have hs : n - i = (n - (i + 1)) + 1 := by omega
    rw [he, hs, numLoop]
  · obtain rfl : i = n := by omega
    rw [wi64 (x := 8 * (i : Int)) (by omega) (by omega), wi64 (x := 64 - 8 * (i : Int)) (by omega) (by omega)]
    rw [Nat.sub_self, numLoop] at he
    refine ⟨by omega, by omega, ?_⟩
    unfold rNum at k
    rw [he] at k
    exact k w1 h1
theorem nxt_range {l : List Int} (hl : isBytes l) (s : Rd) : 0 ≤ (nxt l s).1 ∧ (nxt l s).1 < 256 := by
  unfold nxt
  split
  · simp
  · split
    · simp
    · rename_i h; exact hl.2 _ (getD_mem (by omega))
def hd2 (l : List Int) (p : Int × Rd) : Int × Rd := if p.1 = 100 then nxt l { p.2 with seg := true } else p
def hd3 (l : List Int) (p : Int × Rd) : Int × Rd := if 64 ≤ p.1 ∧ p.1 < 80 then nxt l { p.2 with ext := true, rex := p.1 % 16 } else p
def rHead (l : List Int) (s : Rd) : Int × Bool × Rd :=
  if (hd3 l (hd2 l (nxt l s))).1 = 15 then ((nxt l (hd3 l (hd2 l (nxt l s))).2).1, true, (nxt l (hd3 l (hd2 l (nxt l s))).2).2) else ((hd3 l (hd2 l (nxt l s))).1, false, (hd3 l (hd2 l (nxt l s))).2)
theorem hd2_range {l : List Int} (hl : isBytes l) {p : Int × Rd} (hp : 0 ≤ p.1 ∧ p.1 < 256) : 0 ≤ (hd2 l p).1 ∧ (hd2 l p).1 < 256 := by
  unfold hd2
  split
  · exact nxt_range hl _
  · exact hp
theorem hd3_range {l : List Int} (hl : isBytes l) {p : Int × Rd} (hp : 0 ≤ p.1 ∧ p.1 < 256) : 0 ≤ (hd3 l p).1 ∧ (hd3 l p).1 < 256 := by
  unfold hd3
  split
  · exact nxt_range hl _
  · exact hp
theorem rd_open {T : TypeId} {b : Nat} {l : List Int} {s : Rd} (h : S w0 w (rdA T b l s * F)) : S w0 w (pts b (.cells s.cells T (0, 0)) * (slA 5 (rdA.u8s' l) s.a s.n s.c * F)) := h.eq (by unfold rdA; rw [mulA])
theorem rd_shut {T : TypeId} {b : Nat} {l : List Int} {s : Rd} (h : S w0 w (pts b (.cells s.cells T (0, 0)) * (slA 5 (rdA.u8s' l) s.a s.n s.c * F))) : S w0 w (rdA T b l s * F) := h.eq (by unfold rdA; rw [mulA])
theorem c_head {T : TypeId} {b : Nat} {l : List Int} {s : Rd} (hl : isBytes l) (h : S w0 w (rdA T b l s * F)) (k : ∀ w', S w0 w' (rdA T b l (rHead l s).2.2 * F) → R (.returned (.tuple #[.int .i64 (rHead l s).1, .bool (rHead l s).2.1])) w') :
    Calls Tryz.prog 56 #[.pointer (some ⟨b, 0, none⟩)] w R := by
  refine ok_decode_reader_head _ (c_next hl h fun w1 h1 => ⟨_, rfl, ?_⟩)
  have r1 := nxt_range hl s
  have r2 := hd2_range hl r1
  have r3 := hd3_range hl r2
  refine ⟨fun y w' => y = (hd2 l (nxt l s)).1 ∧ S w0 w' (rdA T b l (hd2 l (nxt l s)).2 * F), ?_, ?_⟩
  · by_cases c : (nxt l s).1 = 100
    · rw [hd2, if_pos c]
      refine b_t (by simpa using c) (st (rd_open h1) rfl fun w2 h2 => c_next hl (rd_shut (s := { (nxt l s).2 with seg := true }) h2) fun w3 h3 => ⟨_, rfl, rfl, h3⟩)
    · rw [hd2, if_neg c]
      exact b_f (by simpa using c) ⟨rfl, h1⟩
  rintro _ y w2 ⟨rfl, h2⟩
  refine jAnd ?_
  refine ⟨fun y w' => y = (hd3 l (hd2 l (nxt l s))).1 ∧ S w0 w' (rdA T b l (hd3 l (hd2 l (nxt l s))).2 * F), ?_, ?_⟩
  · by_cases c : 64 ≤ (hd2 l (nxt l s)).1 ∧ (hd2 l (nxt l s)).1 < 80
    · rw [hd3, if_pos c]
      refine b_t (by simpa using c) (st (rd_open h2) rfl fun w3 h3 => st h3 rfl fun w4 h4 => ?_)
      rw [tmod_pos r2.1] at h4
      exact c_next hl (rd_shut (s := { (hd2 l (nxt l s)).2 with ext := true, rex := (hd2 l (nxt l s)).1 % 16 }) h4) fun w5 h5 => ⟨_, rfl, rfl, h5⟩
    · rw [hd3, if_neg c]
      exact b_f (by simpa using c) ⟨rfl, h2⟩
  rintro _ y w3 ⟨rfl, h3⟩
  unfold rHead at k
  by_cases c : (hd3 l (hd2 l (nxt l s))).1 = 15
  · simp only [if_pos c] at k
    exact b_t (by simpa using c) (c_next hl h3 fun w4 h4 => ⟨_, rfl, k w4 h4⟩)
  · simp only [if_neg c] at k
    exact b_f (by simpa using c) (k w3 h3)
end Go.Sk
