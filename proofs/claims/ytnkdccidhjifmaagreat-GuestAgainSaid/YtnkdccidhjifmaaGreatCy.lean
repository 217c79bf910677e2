/- Contracts of the layer exec (seat Z): the processor's parts that reckon. -/
import Derived.Test.YtnkdccidhjifmaaGreatCx
import Derived.Test.YtnkdccidhjifmaaGreatCl
set_option linter.unusedVariables false
set_option linter.unusedSimpArgs false
namespace Go.Sk
open Go.RowKit Go.Proofs
variable {w0 w : World} {F : Asrt} {R : Ending → World → Prop}
abbrev Sl3 := Option Addr × Nat × Nat
structure Pr where
  m : Option Addr
  r : Rg
  next : Int
  wr : Bool
  at' : Int
  b : List Int
def Pr.cells (p : Pr) (z : Sl3) : List Value := .pointer p.m :: (p.r.cells ++ [.int .u64 p.next, .bool p.wr, .int .u64 p.at', .slice z.1 z.2.1 z.2.2])
def Rg.set (g : Rg) (n : Nat) (v : Int) : Rg := { g with r := fun i => if i = n then v else g.r i }
def Pr.set (p : Pr) (n : Nat) (v : Int) : Pr := { p with r := p.r.set n v }
def prA (T : TypeId) (b : Nat) (p : Pr) : Asrt := ex fun z : Sl3 => pts b (.cells (p.cells z).toArray T (0, 0)) * slA 5 (u8s p.b) z.1 z.2.1 z.2.2
theorem pr_open {T : TypeId} {b : Nat} {p : Pr} (h : S w0 w (prA T b p * F)) : ∃ z : Sl3, S w0 w (pts b (.cells (p.cells z).toArray T (0, 0)) * (slA 5 (u8s p.b) z.1 z.2.1 z.2.2 * F)) := by
  obtain ⟨z, h⟩ := S.exm.1 h
  exact ⟨z, by rw [mulA] at h; exact h⟩
theorem pr_shut {T : TypeId} {b : Nat} {p : Pr} {z : Sl3} (h : S w0 w (pts b (.cells (p.cells z).toArray T (0, 0)) * (slA 5 (u8s p.b) z.1 z.2.1 z.2.2 * F))) : S w0 w (prA T b p * F) := S.exm.2 ⟨z, by rw [mulA]; exact h⟩
theorem reg_get (p : Pr) (z : Sl3) {n : Nat} (h : n < 16) : (p.cells z).toArray[1 + n * 1]? = some (.int .u64 (p.r.r n)) := by
  rcases n with _ | _ | _ | _ | _ | _ | _ | _ | _ | _ | _ | _ | _ | _ | _ | _ | n <;> first | rfl | omega
theorem reg_set (p : Pr) (z : Sl3) {n : Nat} (v : Int) (h : n < 16) : (p.cells z).toArray.setIfInBounds (1 + n * 1) (.int .u64 v) = ((p.set n v).cells z).toArray := by
  rcases n with _ | _ | _ | _ | _ | _ | _ | _ | _ | _ | _ | _ | _ | _ | _ | _ | n <;> first | rfl | omega
theorem ld_reg {A : Asrt} {b : Nat} {p : Pr} {z : Sl3} {T : TypeId} {φ : Nat × Nat} {f : Obj → Asrt} {x : Int} (h : S w0 w A) [hA : At A b (.cells (p.cells z).toArray T φ) f] (h0 : 0 ≤ x) (h1 : x < 16) :
    w.cell? ((⟨b, 1, none⟩ : Addr).add (x.toNat * 1)) = some (.int .u64 (p.r.r x.toNat)) := ld h (hA := hA) (reg_get p z (by omega))
theorem st_reg {b : Nat} {p : Pr} {z : Sl3} {T : TypeId} {x v : Int} {K : World → Prop} (h : S w0 w (pts b (.cells (p.cells z).toArray T (0, 0)) * F)) (h0 : 0 ≤ x) (h1 : x < 16)
    (k : ∀ w', S w0 w' (pts b (.cells ((p.set x.toNat v).cells z).toArray T (0, 0)) * F) → K w') : stc w ((⟨b, 1, none⟩ : Addr).add (x.toNat * 1)) (.int .u64 v) K := by
  refine st h ?_ fun w' h' => k w' ?_
  · have : (p.cells z).toArray.size = 28 := rfl
    rw [this, Nat.blt_eq]
    omega
  · rw [reg_set p z v (by omega)] at h'
    exact h'
structure Opn.ok (o : Opn) : Prop where
  r0 : 0 ≤ o.reg
  r1 : o.reg < 16
  b1 : o.base < 16
  i1 : o.index < 16
  w : o.width = 0 ∨ o.width = 1 ∨ o.width = 4 ∨ o.width = 8
theorem Opn.ok.wr {o : Opn} (h : o.ok) : 0 ≤ o.width ∧ o.width ≤ 8 := by rcases h.w with e | e | e | e <;> omega
/-! ### addr -/
def mAd1 (p : Pr) (o : Opn) : Int := if o.base ≥ 0 then IntKind.u64.wrap (IntKind.u64.wrap o.disp + p.r.r o.base.toNat) else IntKind.u64.wrap o.disp
def mAd2 (p : Pr) (o : Opn) (a : Int) : Int := if o.index ≥ 0 then IntKind.u64.wrap (a + IntKind.u64.wrap (p.r.r o.index.toNat * IntKind.u64.wrap o.scale)) else a
def mAd3 (p : Pr) (o : Opn) (a : Int) : Int := if o.next = true then IntKind.u64.wrap (a + p.next) else a
def mAd4 (p : Pr) (o : Opn) (a : Int) : Int := if o.seg = true then IntKind.u64.wrap (a + p.r.fs) else a
def mAddr (p : Pr) (o : Opn) : Int := mAd4 p o (mAd3 p o (mAd2 p o (mAd1 p o)))
theorem c_addr {T : TypeId} {b : Nat} {p : Pr} {z : Sl3} {o : Opn} (ho : o.ok) (h : S w0 w (pts b (.cells (p.cells z).toArray T (0, 0)) * F))
    (k : ∀ w', S w0 w' (pts b (.cells (p.cells z).toArray T (0, 0)) * F) → R (.returned (.int .u64 (mAddr p o))) w') : Calls Tryz.prog 73 #[.pointer (some ⟨b, 0, none⟩), o.val] w R := by
  refine ok_exec_processor_addr _ o.cells (al h fun b1 w1 h1 => ?_)
  iterate 2 refine ⟨_, ld h1 rfl, ?_⟩
  unfold mAddr at k
  refine ⟨fun y w' => y = mAd1 p o ∧ S w0 w' (pts b1 (.cells o.cells.toArray 61 (0, 0)) * (pts b (.cells (p.cells z).toArray T (0, 0)) * F)), ?_, ?_⟩
  · unfold mAd1
    by_cases c : o.base ≥ 0
    · rw [if_pos c]
      exact dt c (dr h1 fun w2 h2 => ⟨_, ld h2 rfl, ⟨c, ho.b1⟩, _, ld_reg h2 c ho.b1, rfl, h2⟩)
    · rw [if_neg c]
      exact df c ⟨rfl, h1⟩
  rintro _ y w2 ⟨rfl, h2⟩
  refine ⟨_, ld h2 rfl, ?_⟩
  refine ⟨fun y w' => y = mAd2 p o (mAd1 p o) ∧ S w0 w' (pts b1 (.cells o.cells.toArray 61 (0, 0)) * (pts b (.cells (p.cells z).toArray T (0, 0)) * F)), ?_, ?_⟩
  · unfold mAd2
    by_cases c : o.index ≥ 0
    · rw [if_pos c]
      exact dt c (dr h2 fun w3 h3 => ⟨_, ld h3 rfl, ⟨c, ho.i1⟩, _, ld_reg h3 c ho.i1, _, ld h3 rfl, rfl, h3⟩)
    · rw [if_neg c]
      exact df c ⟨rfl, h2⟩
  rintro _ y w3 ⟨rfl, h3⟩
  refine ⟨_, ld h3 rfl, ?_⟩
  refine ⟨fun y w' => y = mAd3 p o (mAd2 p o (mAd1 p o)) ∧ w' = w3, ?_, ?_⟩
  · by_cases c : o.next = true
    · rw [show mAd3 p o (mAd2 p o (mAd1 p o)) = _ from if_pos c]
      exact b_t c ⟨_, ld h3 rfl, rfl, rfl⟩
    · rw [show mAd3 p o (mAd2 p o (mAd1 p o)) = _ from if_neg c]
      exact b_f (nt c) ⟨rfl, rfl⟩
  rintro _ y w4 ⟨rfl, rfl⟩
  refine ⟨_, ld h3 rfl, ?_⟩
  refine ⟨fun y w' => y = mAd4 p o (mAd3 p o (mAd2 p o (mAd1 p o))) ∧ w' = w4, ?_, ?_⟩
  · by_cases c : o.seg = true
    · rw [show mAd4 p o (mAd3 p o (mAd2 p o (mAd1 p o))) = _ from if_pos c]
      exact b_t c ⟨_, ld h3 rfl, rfl, rfl⟩
    · rw [show mAd4 p o (mAd3 p o (mAd2 p o (mAd1 p o))) = _ from if_neg c]
      exact b_f (nt c) ⟨rfl, rfl⟩
  rintro _ y w5 ⟨rfl, rfl⟩
  exact k w5 h3.drop
/-! ### store -/
theorem u8s_len (l : List Int) : (u8s l).length = l.length := u8s_length l
def byteAt (v : Int) (i : Nat) : Int := IntKind.u8.wrap (shrI .u64 v (8 * (i : Int)))
def bytesLE (v : Int) (n : Nat) : List Int := (List.range n).map (byteAt v)
theorem bytesLE_succ (v : Int) (n : Nat) : bytesLE v (n + 1) = bytesLE v n ++ [byteAt v n] := by simp [bytesLE, List.range_succ]
theorem bytesLE_length (v : Int) (n : Nat) : (bytesLE v n).length = n := by simp [bytesLE]
def mStore (p : Pr) (a v : Int) (x : Nat) : Pr := { p with wr := true, at' := a, b := bytesLE v x }
theorem c_store {T : TypeId} {b : Nat} {p : Pr} {a v : Int} {x : Nat} (hx : x ≤ 8) (h : S w0 w (prA T b p * F))
    (k : ∀ w', S w0 w' (prA T b (mStore p a v x) * F) → R (.returned (.tuple #[])) w') : Calls Tryz.prog 101 #[.pointer (some ⟨b, 0, none⟩), .int .u64 a, .int .u64 v, .int .i64 (x : Int)] w R := by
  refine ok_exec_processor_store _ _ _ _ ?_
  obtain ⟨z, h⟩ := pr_open h
  have h' : S w0 w (pts b (.cells (p.cells z).toArray T (0, 0)) * F) := (h.eq (mulL _ _ _)).drop
  refine st h' rfl fun w1 h1 => st h1 rfl fun w2 h2 => st h2 rfl fun w3 h3 => ?_
  have h4 : S w0 w3 (prA T b (mStore p a v 0) * F) := pr_shut (z := (none, 0, 0)) (h3.eq (by
    show pts b _ * F = pts b _ * (slA 5 [] none 0 0 * F)
    rw [slA_nil, emp_mul]
    rfl))
  refine ⟨fun y w' => ∃ i : Nat, y = i ∧ i ≤ x ∧ S w0 w' (prA T b (mStore p a v i) * F), fun y _ => (x - y).toNat, ⟨0, rfl, by omega, h4⟩, ?_⟩
  rintro _ y w4 ⟨i, rfl, hi, h5⟩
  refine dc (fun hlt => ?_) (fun hlt => ?_)
  · refine dr h5 fun w5 h6 => ?_
    obtain ⟨z, h6⟩ := pr_open h6
    refine ⟨_, _, _, ld h6 rfl, ?_⟩
    rw [wi64 (x := 8 * (i : Int)) (by omega) (by omega)]
    refine ⟨by omega, al h6 fun b10 w7 h7 => ⟨_, _, _, ld h7 rfl, rfl, ?_⟩⟩
    refine app8 h7 (ld h7 rfl) (by show (u8s (bytesLE v i)).length + 1 ≤ _; rw [u8s_length, bytesLE_length]; omega) ?_
    intro a' n' c' w8 h8 hn
    refine st h8 rfl fun w9 h9 => ⟨⟨i + 1, ?_, by omega, ?_⟩, ?_⟩
    · rw [wi64 (by omega) (by omega)]; omega
    · refine pr_shut (z := (a', n', c')) ?_
      have e : (mStore p a v (i + 1)).b = (mStore p a v i).b ++ [byteAt v i] := bytesLE_succ v i
      rw [e, u8s_snoc]
      exact h9.drop
    · simp only []; rw [wi64 (by omega) (by omega)]; omega
  · obtain rfl : i = x := by omega
    exact k w4 h5
/-! ### flags -/
theorem c_maskV {x : Int} (h0 : 0 ≤ x ∧ x ≤ 8) (k : R (.returned (.int .u64 (maskV x))) w) : Calls Tryz.prog 74 #[.int .i64 x] w R := c_mask h0.1 h0.2 k
theorem wi8 (x : Int) : IntKind.u8.wrap x = x % 256 := by
  have : IntKind.u8.signed = false := rfl
  simp [IntKind.wrap, IntKind.bits, this]
def ones8 : List Nat := [0, 1, 1, 2, 1, 2, 2, 3, 1, 2, 2, 3, 2, 3, 3, 4, 1, 2, 2, 3, 2, 3, 3, 4, 2, 3, 3, 4, 3, 4, 4, 5, 1, 2, 2, 3, 2, 3, 3, 4, 2, 3, 3, 4, 3, 4, 4, 5, 2, 3, 3, 4, 3, 4, 4, 5, 3, 4, 4, 5, 4, 5, 5, 6, 1, 2, 2, 3, 2, 3, 3, 4, 2, 3, 3, 4, 3, 4, 4, 5, 2, 3, 3, 4, 3, 4, 4, 5, 3, 4, 4, 5, 4, 5, 5, 6, 2, 3, 3, 4, 3, 4, 4, 5, 3, 4, 4, 5, 4, 5, 5, 6, 3, 4, 4, 5, 4, 5, 5, 6, 4, 5, 5, 6, 5, 6, 6, 7, 1, 2, 2, 3, 2, 3, 3, 4, 2, 3, 3, 4, 3, 4, 4, 5, 2, 3, 3, 4, 3, 4, 4, 5, 3, 4, 4, 5, 4, 5, 5, 6, 2, 3, 3, 4, 3, 4, 4, 5, 3, 4, 4, 5, 4, 5, 5, 6, 3, 4, 4, 5, 4, 5, 5, 6, 4, 5, 5, 6, 5, 6, 6, 7, 2, 3, 3, 4, 3, 4, 4, 5, 3, 4, 4, 5, 4, 5, 5, 6, 3, 4, 4, 5, 4, 5, 5, 6, 4, 5, 5, 6, 5, 6, 6, 7, 3, 4, 4, 5, 4, 5, 5, 6, 4, 5, 5, 6, 5, 6, 6, 7, 4, 5, 5, 6, 5, 6, 6, 7, 5, 6, 6, 7, 6, 7, 7, 8]
def onesV (x : Int) : Int := (ones8.getD x.toNat 0 : Nat)
def str8 : ByteArray := ⟨#[0, 1, 1, 2, 1, 2, 2, 3, 1, 2, 2, 3, 2, 3, 3, 4, 1, 2, 2, 3, 2, 3, 3, 4, 2, 3, 3, 4, 3, 4, 4, 5, 1, 2, 2, 3, 2, 3, 3, 4, 2, 3, 3, 4, 3, 4, 4, 5, 2, 3, 3, 4, 3, 4, 4, 5, 3, 4, 4, 5, 4, 5, 5, 6, 1, 2, 2, 3, 2, 3, 3, 4, 2, 3, 3, 4, 3, 4, 4, 5, 2, 3, 3, 4, 3, 4, 4, 5, 3, 4, 4, 5, 4, 5, 5, 6, 2, 3, 3, 4, 3, 4, 4, 5, 3, 4, 4, 5, 4, 5, 5, 6, 3, 4, 4, 5, 4, 5, 5, 6, 4, 5, 5, 6, 5, 6, 6, 7, 1, 2, 2, 3, 2, 3, 3, 4, 2, 3, 3, 4, 3, 4, 4, 5, 2, 3, 3, 4, 3, 4, 4, 5, 3, 4, 4, 5, 4, 5, 5, 6, 2, 3, 3, 4, 3, 4, 4, 5, 3, 4, 4, 5, 4, 5, 5, 6, 3, 4, 4, 5, 4, 5, 5, 6, 4, 5, 5, 6, 5, 6, 6, 7, 2, 3, 3, 4, 3, 4, 4, 5, 3, 4, 4, 5, 4, 5, 5, 6, 3, 4, 4, 5, 4, 5, 5, 6, 4, 5, 5, 6, 5, 6, 6, 7, 3, 4, 4, 5, 4, 5, 5, 6, 4, 5, 5, 6, 5, 6, 6, 7, 4, 5, 5, 6, 5, 6, 6, 7, 5, 6, 6, 7, 6, 7, 7, 8]⟩
theorem ones8_all : ((List.range 256).all fun n => (str8.data[n]?).map UInt8.toNat == some (ones8.getD n 0) && decide (ones8.getD n 0 ≤ 8)) = true := by kernel_rfl
theorem ones8_at {n : Nat} (h : n < 256) : (∃ b, str8.data[n]? = some b ∧ b.toNat = ones8.getD n 0) ∧ ones8.getD n 0 ≤ 8 := by
  have := List.all_eq_true.1 ones8_all n (List.mem_range.2 h)
  simp only [Bool.and_eq_true, beq_iff_eq, decide_eq_true_eq, Option.map_eq_some_iff] at this
  exact ⟨this.1, this.2⟩
end Go.Sk
