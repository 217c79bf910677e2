/- The statement GuestArgs (seat Z). -/
import Derived.Test.YtnkdccidhjifmaaGreatGf
set_option linter.unusedVariables false
set_option linter.unusedSimpArgs false
namespace Go.Sk
open Go.RowKit Go.Proofs
variable {w0 w : World} {F G : Asrt} {R : Ending → World → Prop}
variable {T : TypeId} {b m r tb rg : Nat} {q : Int} {ps : List Pg} {p : Pr}
theorem c_Peek {m r : Nat} {q : Int} {ps : List Pg} {addr : Int} {n : Nat} (hw : wfs ps) (hn : n ≤ 100000) (h : S w0 w (memA m r q ps * F))
    (k : ∀ v a c w', S w0 w' (errA (rRead (mv ps) 0 6 addr n).1 v * (memA m r q ps * (slA 5 (u8s (rRead (mv ps) 0 6 addr n).2) a (rRead (mv ps) 0 6 addr n).2.length c * F))) →
      R (.returned (.tuple #[.slice a (rRead (mv ps) 0 6 addr n).2.length c, v])) w') :
    Calls Tryz.prog 21 #[.pointer (some ⟨m, 0, none⟩), .int .u64 addr, .int .u64 (n : Int)] w R :=
  ok_vmem_Mem_Peek _ _ _ (c_getE hw hn h fun v a c w' h' => ⟨_, _, _, _, rfl, k v a c w' h'⟩)
theorem over_out {f : Int → Int} {addr : Int} {l : List Int} {y : Int} (h : (l.length : Int) ≤ (y - addr) % 18446744073709551616) : over f addr l y = f y := if_neg (by omega)
theorem GivesU.at_ {b : Nat} {l : List Int} {t : TypeId} : GivesU (pts b (.cells (u64v l).toArray t (0, 0)) * F) (some ⟨b, 0, none⟩) l := fun w hs j hj => ⟨_, rfl, by
  have h : S w w (pts b (.cells (u64v l).toArray t (0, 0)) * F) := ⟨hs, .refl w⟩
  rw [Addr.add_lit, cellS hs]
  simp [u64v, hj, List.getD_eq_getElem?_getD]⟩
def argc : List Int := [72, 137, 248, 72, 1, 240, 72, 1, 208, 195]
def argD (a b c : Int) : Er2 × Gs := gCall [] (mv20 argc []) stG 50 65536 [a, b, c] []
def kk8 (x : Int) : Int := bAnd .u64 x (maskV 8)
theorem arg_none (a b c : Int) : (argD a b c).1.isNone = true := by kernel_rfl
theorem arg_fuel (a b c : Int) : (argD a b c).2.fuel = 45 := by kernel_rfl
theorem arg_ev (a b c : Int) : (argD a b c).2.ev.length = 0 := by kernel_rfl
theorem arg_val (a b c : Int) : (argD a b c).2.g.r 0 = kk8 (mSumV (kk8 (kk8 (mSumV (kk8 (kk8 (kk8 a))) (kk8 b) 8))) (kk8 c) 8) := by kernel_rfl
theorem arg_M (a b c : Int) : (argD a b c).2.M = mvPut (mv20 argc []) (some (135160, gBack)) := by kernel_rfl
theorem and_ones64 (x : Int) : bAnd .u64 x 18446744073709551615 = x % 18446744073709551616 := by
  unfold bAnd
  have e : BitVec.ofInt 64 18446744073709551615 = BitVec.allOnes 64 := by decide
  show IntKind.u64.wrap ((((BitVec.ofInt 64 x) &&& BitVec.ofInt 64 18446744073709551615).toNat : Nat) : Int) = _
  rw [e, BitVec.and_allOnes, BitVec.toNat_ofInt, w64]
  omega
theorem mask8 : maskV 8 = 18446744073709551615 := by kernel_rfl
theorem kk8_eq (x : Int) : kk8 x = x % 18446744073709551616 := by unfold kk8; rw [mask8, and_ones64]
theorem sum8_eq (x y : Int) : mSumV x y 8 = (x + y) % 18446744073709551616 := by unfold mSumV; rw [mask8, and_ones64, w64]; omega
theorem arg_sum (a b c : Int) : (argD a b c).2.g.r 0 = IntKind.u64.wrap (IntKind.u64.wrap (a + b) + c) := by
  rw [arg_val]
  simp only [kk8_eq, sum8_eq, w64]
  omega
theorem arg_ok (a b c : Int) (j : Nat) (hj : j < 4088) : (argD a b c).2.M.ok 0 (131072 + j) = true := by
  rw [arg_M]
  show layOk lay20 0 (131072 + j) = true
  unfold layOk
  rw [show (131072 + (j : Int)) % 18446744073709551616 / 4096 = 32 by omega]
  rfl
theorem arg_byte (a b c : Int) (j : Nat) (hj : j < 4088) : (argD a b c).2.M.byte (131072 + j) = 0 := by
  rw [arg_M]
  have h8 : gBack.length = 8 := by decide
  have h10 : (argc.take 4096).length = 10 := by decide
  show over (over (over (over (over (over (fun _ => 0) (1879048192 + 16 * ((0 : Nat) : Int)) [244]) (1879048192 + 16 * ((1 : Nat) : Int)) [244]) (1879048192 + 16 * ((2 : Nat) : Int)) [244]) 65536 (argc.take 4096)) 131072 (([] : List Int).take 8192)) 135160 gBack (131072 + j) = 0
  rw [over_out (by rw [h8]; omega), over_out (by simp; omega), over_out (by rw [h10]; omega), over_out (by simp; omega), over_out (by simp; omega), over_out (by simp; omega)]
theorem arg_peek (a b c : Int) : ∃ X : List Int, rRead (argD a b c).2.M 0 6 131072 4088 = (none, X) ∧ X.length = 4088 ∧ ∀ i, i < 4088 → X[i]? = some 0 := by
  refine ⟨mList (argD a b c).2.M 131072 4088, ?_, by simp [mList], fun i hi => ?_⟩
  · unfold rRead
    rw [mBad_all 4088 0 fun j h1 h2 => arg_ok a b c j (by omega)]
  · have := arg_byte a b c i hi
    simp [mList, hi, this]
set_option maxHeartbeats 1000000 in
theorem c_GuestArgs {a b c : Int} (h : S w0 w F) (k : ∀ w', S w0 w' F → R (.returned (.bool true)) w') : Calls Tryz.prog 6 #[.int .u64 a, .int .u64 b, .int .u64 c] w R := by
  refine ok_shacklelaw20_GuestArgs _ _ _ (c_up20 h fun w1 h1 => ⟨_, rfl, al h1 fun b4 w2 h2 => ?_⟩)
  refine c_both20 (code := argc) (data := []) (cc := 10) (dcp := 0) (Gives.at (l := argc) (so := 0) (obj := #[.int .u8 72, .int .u8 137, .int .u8 248, .int .u8 72, .int .u8 1, .int .u8 240, .int .u8 72, .int .u8 1, .int .u8 208, .int .u8 195]) ?_) (Gives.nil _ none) (by decide) (by decide) h2 ?_
  · intro j hj
    have h7 : argc.length = 10 := rfl
    have : j = 0 ∨ j = 1 ∨ j = 2 ∨ j = 3 ∨ j = 4 ∨ j = 5 ∨ j = 6 ∨ j = 7 ∨ j = 8 ∨ j = 9 := by omega
    rcases this with rfl | rfl | rfl | rfl | rfl | rfl | rfl | rfl | rfl | rfl <;> rfl
  intro m r ps mr qs w3 t h3
  have hB := mv20_B (code := argc) (data := []) (by unfold isB argc; decide) (by unfold isB; decide)
  refine ⟨_, _, rfl, b_f rfl (al h3 fun b7 w4 h4 => c_stack h4 fun w5 h5 => ?_)⟩
  refine ⟨_, _, _, _, _, _, _, _, _, _, _, _, _, _, _, _, _, _, _, _, _, _, _, rfl, al h5 fun b8 w6 h6 => ?_⟩
  have h7 : S w0 w6 (pts b7 (.cells #[.slice none 0 0, .slice none 0 0] 46 (0, 0)) * (memA m r 8 ps * (pts b8 (.cells (u64v [a, b, c]).toArray 22 (0, 0)) * (rmemA mr 8 qs * (pts b4 (.cells #[.int .u8 72, .int .u8 137, .int .u8 248, .int .u8 72, .int .u8 1, .int .u8 240, .int .u8 72, .int .u8 1, .int .u8 208, .int .u8 195] 5 (0, 0)) * F))))) := h6.eq (by
    show pts b8 (.cells (u64v [a, b, c]).toArray 22 (0, 0)) * _ = _
    ac_rfl)
  refine c_Call0 (args := [a, b, c]) (fuel := 50) t.o.wf t.o.mv hB GivesU.at_ (by simp) (by decide) h7 fun v1 a1 c1 ps1 w7 hw1 hM1 he1 h8 => ?_
  rw [show gCall [] (mv20 argc []) stG 50 65536 [a, b, c] [] = argD a b c from rfl] at hM1 h8 ⊢
  have hn : (argD a b c).1 = none := Option.isNone_iff_eq_none.1 (arg_none a b c)
  have hfu := arg_fuel a b c
  have hev := arg_ev a b c
  have hsu := arg_sum a b c
  obtain ⟨X, hX, hl, hXi⟩ := arg_peek a b c
  generalize argD a b c = D at *
  obtain ⟨N, hN⟩ : ∃ N : Nat, N = 4088 := ⟨_, rfl⟩
  obtain ⟨rfl, h9⟩ := errB_none (by rw [hn] at h8; exact h8)
  refine ⟨_, _, _, _, _, _, rfl, ?_⟩
  refine c_Peek (n := 4088) hw1 (by decide) h9 fun v2 a2 c2 w8 h10 => ⟨_, _, _, _, rfl, ?_⟩
  rw [hM1, hX] at h10 ⊢
  obtain ⟨rfl, h11⟩ := err_none h10
  have h12 := h11.eq (mulL _ _ _)
  rw [← hN] at hl hXi
  simp only [hl] at h12 ⊢
  refine ⟨fun y w' => ∃ i : Nat, y = i ∧ i ≤ N ∧ w' = w8, fun y _ => (N - y).toNat, ⟨0, rfl, by omega, rfl⟩, ?_⟩
  rintro _ y w9 ⟨i, rfl, hi, rfl⟩
  refine dc (fun hlt => ?_) (fun hlt => ?_)
  · have hi' : i < N := by omega
    obtain ⟨ad, rfl, hc⟩ := slA_rd h12 (i := i) (by rw [u8s_length, hl]; exact hi')
    refine ix_mk (by omega) (by omega) ⟨0, ?_, ?_⟩
    · rw [Int.toNat_natCast, Nat.mul_one, hc]
      simp [u8s, hXi i hi']
    · rw [wi64 (x := (i : Int) + 1) (by omega) (by omega)]
      exact b_f rfl ⟨⟨i + 1, by omega, by omega, rfl⟩, by simp only []; omega⟩
  · refine ⟨fun y w' => y = true ∧ w' = w9, ?_, ?_⟩
    · refine ift trivial (ift ?_ (ift (by rw [hev]; rfl) (ift (by rw [hfu]; rfl) (nq_nil (ift rfl (nq_nil ⟨rfl, rfl⟩))))))
      unfold gVal
      rw [hn, ← hsu]
      simp
    rintro _ y w14 ⟨rfl, rfl⟩
    refine k w14 ?_
    exact (h12.eq (show _ = (slA 5 (u8s X) a2 N c2 * (memA m r 8 ps1 * (slR 49 3 (evs D.2.ev) a1 D.2.ev.length c1 * (pts b8 (.cells (u64v [a, b, c]).toArray 22 (0, 0)) * (rmemA mr 8 qs * pts b4 (.cells #[.int .u8 72, .int .u8 137, .int .u8 248, .int .u8 72, .int .u8 1, .int .u8 240, .int .u8 72, .int .u8 1, .int .u8 208, .int .u8 195] 5 (0, 0))))))) * F by ac_rfl)).drop
end Go.Sk
