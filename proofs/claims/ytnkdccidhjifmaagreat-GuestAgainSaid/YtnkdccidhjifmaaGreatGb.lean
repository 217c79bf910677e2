/- Contracts of the layer guest (seat Z): ask, on, Run. -/
import Derived.Test.YtnkdccidhjifmaaGreatGa
set_option linter.unusedVariables false
set_option linter.unusedSimpArgs false
namespace Go.Sk
open Go.RowKit Go.Proofs
variable {w0 w : World} {F G : Asrt} {R : Ending → World → Prop}
variable {T : TypeId} {b m r tb rg : Nat} {q : Int} {ps : List Pg} {p : Pr}
structure Gs where
  M : Mv
  g : Rg
  fuel : Nat
  ev : List (Int × Int × Int)
  asked : List Int
def Rg.ipTo (g : Rg) (v : Int) : Rg := { g with ip := v }
def gBind (L : List Int) (s : Gs) (t : Er × Int × Int) : Bool × Er2 × Gs :=
  if t.1.isNone = true then (if (lkBind L t.2.1 t.2.2).1.isNone = true then (false, none, { s with asked := s.asked ++ [1, t.2.1, t.2.2], g := (s.g.set 4 (IntKind.u64.wrap (s.g.r 4 + 16))).ipTo (lkBind L t.2.1 t.2.2).2 })
    else (false, (lkBind L t.2.1 t.2.2).1, { s with asked := s.asked ++ [1, t.2.1, t.2.2] })) else (false, up2 t.1, s)
def gTls (L : List Int) (s : Gs) (t : Er × Int × Int) : Bool × Er2 × Gs :=
  if t.1.isNone = true then (if (lkTls L t.2.1 t.2.2).1.isNone = true then
      (if (rNumM s.M (s.g.r 4)).1.isNone = true then (false, none, { s with asked := s.asked ++ [2, t.2.1, t.2.2], g := ((s.g.set 0 (lkTls L t.2.1 t.2.2).2).ipTo (rNumM s.M (s.g.r 4)).2).set 4 (IntKind.u64.wrap (s.g.r 4 + 8)) })
       else (false, up2 (rNumM s.M (s.g.r 4)).1, { s with asked := s.asked ++ [2, t.2.1, t.2.2] }))
    else (false, (lkTls L t.2.1 t.2.2).1, { s with asked := s.asked ++ [2, t.2.1, t.2.2] })) else (false, up2 t.1, s)
def gAsk (L : List Int) (x : Int) (s : Gs) : Bool × Er2 × Gs :=
  if x = 1879048192 then (true, none, s)
  else if x = 1879048208 then gBind L s (gTwo s.M (s.g.r 4))
  else if x = 1879048224 then gTls L s (gTwo s.M (s.g.r 7))
  else (false, none, { s with ev := s.ev ++ [(x, s.g.r 0, s.g.r 7)] })
/-- All that a run holds. -/
def gsA (b m r tb rg : Nat) (q : Int) (ps : List Pg) (L : Lk) (s : Gs) : Asrt := runA b m tb rg s.fuel s.ev * (memA m r q ps * (pts rg (.cells s.g.cells.toArray 25 (0, 0)) * tabA tb L s.asked))
theorem gs_open {L : Lk} {s : Gs} (h : S w0 w (gsA b m r tb rg q ps L s * F)) : ∃ z : Sl3, S w0 w (pts b (.cells (rnC m tb rg s.fuel z) 107 (0, 0)) * (memA m r q ps * (pts rg (.cells s.g.cells.toArray 25 (0, 0)) * (tabA tb L s.asked * (slR 49 3 (evs s.ev) z.1 z.2.1 z.2.2 * F))))) := by
  obtain ⟨z, h⟩ := run_open (h.eq (show _ = runA b m tb rg s.fuel s.ev * (memA m r q ps * (pts rg (.cells s.g.cells.toArray 25 (0, 0)) * (tabA tb L s.asked * F))) by unfold gsA; ac_rfl))
  exact ⟨z, h.eq (by ac_rfl)⟩
theorem gs_shut {L : Lk} {s : Gs} {fuel : Int} {z : Sl3} (hf : fuel = s.fuel) (h : S w0 w (pts b (.cells (rnC m tb rg fuel z) 107 (0, 0)) * (memA m r q ps * (pts rg (.cells s.g.cells.toArray 25 (0, 0)) * (tabA tb L s.asked * (slR 49 3 (evs s.ev) z.1 z.2.1 z.2.2 * F)))))) : S w0 w (gsA b m r tb rg q ps L s * F) := by
  subst hf
  have h2 : S w0 w (runA b m tb rg s.fuel s.ev * (memA m r q ps * (pts rg (.cells s.g.cells.toArray 25 (0, 0)) * (tabA tb L s.asked * F)))) := run_shut (z := z) (h.eq (by ac_rfl))
  exact h2.eq (by unfold gsA; ac_rfl)
theorem meth_Bind (tb : Nat) (w : World) : (method (Tryz.prog.types.size + Made.depth) 43 (.pointer (some ⟨tb, 0, none⟩)) "Bind").run Tryz.prog w = .ok (163, .pointer (some ⟨tb, 0, none⟩)) w := by kernel_rfl
theorem meth_TLS (tb : Nat) (w : World) : (method (Tryz.prog.types.size + Made.depth) 43 (.pointer (some ⟨tb, 0, none⟩)) "TLS").run Tryz.prog w = .ok (164, .pointer (some ⟨tb, 0, none⟩)) w := by kernel_rfl
theorem u40 : Tryz.prog.underlying 40 = some (.slice 49) := by kernel_rfl
theorem i49 : (Tryz.prog.info? 49).map (fun i => (i.zero, i.size, i.bytes)) = some (some (.agg #[.int .u64 0, .int .u64 0, .int .u64 0]), 3, 24) := by kernel_rfl
theorem gs_shutX {L : Lk} {s : Gs} {fuel : Int} {z : Sl3} {X : Asrt} (hf : fuel = s.fuel) (h : S w0 w (X * (pts b (.cells (rnC m tb rg fuel z) 107 (0, 0)) * (memA m r q ps * (pts rg (.cells s.g.cells.toArray 25 (0, 0)) * (tabA tb L s.asked * (slR 49 3 (evs s.ev) z.1 z.2.1 z.2.2 * F))))))) : S w0 w (X * (gsA b m r tb rg q ps L s * F)) := by
  have := gs_shut (F := X * F) hf (h.eq (by ac_rfl))
  exact this.eq (mulL _ _ _)
theorem bOr64_nn (a c : Int) : 0 ≤ bOr .u64 a c := by unfold bOr; rw [w64]; omega
theorem ldF_nn : ∀ (l : List Int) (i : Nat) (v : Int), 0 ≤ v → 0 ≤ ldF l i v
  | [], _, _, h => h
  | x :: l, i, v, h => ldF_nn l (i + 1) _ (bOr64_nn _ _)
theorem gTwo_nn (M : Mv) (a : Int) : 0 ≤ (gTwo M a).2.1 := by
  unfold gTwo
  split
  · exact ldF_nn _ _ _ (Int.le_refl _)
  · exact Int.le_refl _
set_option maxHeartbeats 1000000 in
theorem c_ask {L : Lk} {s : Gs} {x : Int} (hw : wfs ps) (hM : mv ps = s.M) (hL : L.l.length ≤ 9223372036854775807) (hg : GivesU F L.a L.l) (ha : s.asked.length ≤ 1000000) (he : s.ev.length ≤ 1000000) (h : S w0 w (gsA b m r tb rg q ps L s * F))
    (k : ∀ v w', S w0 w' (errB (gAsk L.l x s).2.1 v * (gsA b m r tb rg q ps L (gAsk L.l x s).2.2 * F)) → R (.returned (.tuple #[.bool (gAsk L.l x s).1, v])) w') :
    Calls Tryz.prog 78 #[.pointer (some ⟨b, 0, none⟩), .int .u64 x] w R := by
  refine ok_guest_run_ask _ _ ?_
  refine ⟨fun w' => R (.returned (.tuple #[.bool false, .nilIface])) w', ?_, fun _ w' h' => h'⟩
  unfold gAsk at k
  by_cases c1 : x = 1879048192
  · simp only [if_pos c1] at k
    exact b_t (by simpa using c1) (k _ w (errB_nil h))
  simp only [if_neg c1] at k
  refine b_f (by simpa using c1) ?_
  obtain ⟨z, h1⟩ := gs_open h
  by_cases c2 : x = 1879048208
  · simp only [if_pos c2] at k
    refine b_t (by simpa using c2) ⟨_, ld h1 rfl, nc_mk ⟨_, ld h1 rfl, ?_⟩⟩
    refine c_gtwo hw h1 fun v w2 h2 => ⟨_, _, _, rfl, nq_err h2 ?_⟩
    rw [hM] at h2 ⊢
    have hnn := gTwo_nn s.M (s.g.r 4)
    generalize gTwo s.M (s.g.r 4) = t at *
    unfold gBind at k
    cases ht : t.1 with
    | some e =>
      rw [ht] at h2
      simp only [ht] at k
      rw [← errB_up] at h2
      exact b_t rfl (k v w2 (gs_shutX rfl h2))
    | none =>
      rw [ht] at h2
      obtain ⟨rfl, h3⟩ := err_none h2
      simp only [ht, Option.isNone, if_true] at k
      refine b_f rfl ⟨_, ld h3 rfl, 43, _, 163, _, rfl, meth_Bind tb _, by kernel_rfl, ?_⟩
      refine c_Bind (L := L) hnn hL ((((hg.frame (slR 49 3 (evs s.ev) z.1 z.2.1 z.2.2)).frame (pts rg (.cells s.g.cells.toArray 25 (0, 0)))).frame (memA m r q ps)).frame (pts b (.cells (rnC m tb rg s.fuel z) 107 (0, 0)))) ha (h3.eq (show _ = tabA tb L s.asked * (pts b (.cells (rnC m tb rg s.fuel z) 107 (0, 0)) * (memA m r q ps * (pts rg (.cells s.g.cells.toArray 25 (0, 0)) * (slR 49 3 (evs s.ev) z.1 z.2.1 z.2.2 * F)))) by ac_rfl)) fun v w4 h4 => ⟨_, _, rfl, nq_errB h4 ?_⟩
      generalize lkBind L.l t.2.1 t.2.2 = u at *
      cases hu : u.1 with
      | some e =>
        rw [hu] at h4
        simp only [hu] at k
        exact b_t rfl (k v w4 (gs_shutX (s := { s with asked := s.asked ++ [1, t.2.1, t.2.2] }) rfl (h4.eq (by ac_rfl))))
      | none =>
        rw [hu] at h4
        obtain ⟨rfl, h5⟩ := errB_none h4
        simp only [hu, Option.isNone, if_true] at k
        refine b_f rfl (dr h5 fun w6 h6 => ⟨_, ld h6 rfl, nc_mk ⟨_, ld h6 rfl, nc_mk (st h6 rfl fun w7 h7 => ⟨_, ld h7 rfl, nc_mk (st h7 rfl fun w8 h8 => ?_)⟩)⟩⟩)
        refine k _ w8 (errB_nil (gs_shut (s := { s with asked := s.asked ++ [1, t.2.1, t.2.2], g := (s.g.set 4 (IntKind.u64.wrap (s.g.r 4 + 16))).ipTo u.2 }) (z := z) rfl (h8.eq ?_)))
        show tabA tb L (s.asked ++ [1, t.2.1, t.2.2]) * (_ * (_ * (pts rg (.cells ((s.g.set 4 (IntKind.u64.wrap (s.g.r 4 + 16))).ipTo u.2).cells.toArray 25 (0, 0)) * _))) = _
        ac_rfl
  simp only [if_neg c2] at k
  refine b_f (by simpa using c2) ?_
  by_cases c3 : x = 1879048224
  · simp only [if_pos c3] at k
    refine b_t (by simpa using c3) ⟨_, ld h1 rfl, nc_mk ⟨_, ld h1 rfl, ?_⟩⟩
    refine c_gtwo hw h1 fun v w2 h2 => ⟨_, _, _, rfl, nq_err h2 ?_⟩
    rw [hM] at h2 ⊢
    have hnn := gTwo_nn s.M (s.g.r 7)
    generalize gTwo s.M (s.g.r 7) = t at *
    unfold gTls at k
    cases ht : t.1 with
    | some e =>
      rw [ht] at h2
      simp only [ht] at k
      rw [← errB_up] at h2
      exact b_t rfl (k v w2 (gs_shutX rfl h2))
    | none =>
      rw [ht] at h2
      obtain ⟨rfl, h3⟩ := err_none h2
      simp only [ht, Option.isNone, if_true] at k
      refine b_f rfl ⟨_, ld h3 rfl, 43, _, 164, _, rfl, meth_TLS tb _, by kernel_rfl, ?_⟩
      refine c_TLS (L := L) hnn hL ((((hg.frame (slR 49 3 (evs s.ev) z.1 z.2.1 z.2.2)).frame (pts rg (.cells s.g.cells.toArray 25 (0, 0)))).frame (memA m r q ps)).frame (pts b (.cells (rnC m tb rg s.fuel z) 107 (0, 0)))) ha (h3.eq (show _ = tabA tb L s.asked * (pts b (.cells (rnC m tb rg s.fuel z) 107 (0, 0)) * (memA m r q ps * (pts rg (.cells s.g.cells.toArray 25 (0, 0)) * (slR 49 3 (evs s.ev) z.1 z.2.1 z.2.2 * F)))) by ac_rfl)) fun v w4 h4 => ⟨_, _, rfl, nq_errB h4 ?_⟩
      generalize lkTls L.l t.2.1 t.2.2 = u at *
      cases hu : u.1 with
      | some e =>
        rw [hu] at h4
        simp only [hu] at k
        exact b_t rfl (k v w4 (gs_shutX (s := { s with asked := s.asked ++ [2, t.2.1, t.2.2] }) rfl (h4.eq (by ac_rfl))))
      | none =>
        rw [hu] at h4
        obtain ⟨rfl, h5⟩ := errB_none h4
        simp only [hu, Option.isNone, if_true] at k
        have h6 : S w0 w4 (pts b (.cells (rnC m tb rg s.fuel z) 107 (0, 0)) * (memA m r q ps * (pts rg (.cells s.g.cells.toArray 25 (0, 0)) * (tabA tb L (s.asked ++ [2, t.2.1, t.2.2]) * (slR 49 3 (evs s.ev) z.1 z.2.1 z.2.2 * F))))) := h5.eq (by ac_rfl)
        refine b_f rfl ⟨_, ld h6 rfl, nc_mk ⟨_, ld h6 rfl, ?_⟩⟩
        refine c_num hw h6 fun v w7 h7 => ⟨_, _, rfl, nq_err h7 ?_⟩
        rw [hM] at h7 ⊢
        generalize rNumM s.M (s.g.r 4) = y at *
        cases hy : y.1 with
        | some e =>
          rw [hy, ← errB_up] at h7
          simp only [hy] at k
          exact b_t rfl (k v w7 (gs_shutX (s := { s with asked := s.asked ++ [2, t.2.1, t.2.2] }) rfl h7))
        | none =>
          rw [hy] at h7
          obtain ⟨rfl, h8⟩ := err_none h7
          simp only [hy, if_true] at k
          refine b_f rfl (dr h8 fun w9 h9 => ⟨_, ld h9 rfl, _, ld h9 rfl, nc_mk (st h9 rfl fun w10 h10 => nc_mk (st h10 rfl fun w11 h11 => dr h11 fun w12 h12 => ⟨_, ld h12 rfl, nc_mk ⟨_, ld h12 rfl, nc_mk (st h12 rfl fun w13 h13 => ?_)⟩⟩))⟩)
          refine k _ w13 (errB_nil (gs_shut (s := { s with asked := s.asked ++ [2, t.2.1, t.2.2], g := ((s.g.set 0 u.2).ipTo y.2).set 4 (IntKind.u64.wrap (s.g.r 4 + 8)) }) (z := z) rfl (h13.eq ?_)))
          show _ * (_ * (pts rg (.cells (((s.g.set 0 u.2).ipTo y.2).set 4 (IntKind.u64.wrap (s.g.r 4 + 8))).cells.toArray 25 (0, 0)) * _)) = _
          rfl
  simp only [if_neg c3] at k
  refine b_f (by simpa using c3) (dr h1 fun w2 h2 => ⟨_, _, _, ld h2 rfl, _, ld h2 rfl, nc_mk ⟨_, ld h2 rfl, _, ld h2 rfl, nc_mk ⟨_, ld h2 rfl, al h2 fun b4 w4 h4 => ⟨_, _, _, ld h4 rfl, rfl, ?_⟩⟩⟩⟩)
  obtain ⟨inf, hi, hz0, hz1, hz2⟩ := info_parts i49
  have hz : z.2.1 = s.ev.length := by
    have h5 : S w0 w4 (slR 49 3 (evs s.ev) z.1 z.2.1 z.2.2 * _) := h4.eq (show _ = slR 49 3 (evs s.ev) z.1 z.2.1 z.2.2 * (pts b4 (.cells #[.int .u64 x, .int .u64 (s.g.r 0), .int .u64 (s.g.r 7)] 49 (0, 0)) * (pts b (.cells (rnC m tb rg s.fuel z) 107 (0, 0)) * (memA m r q ps * (pts rg (.cells s.g.cells.toArray 25 (0, 0)) * (tabA tb L s.asked * F))))) by ac_rfl)
    rcases slR_cases h5.sat with ⟨_, h6, _, h7, _⟩ | ⟨_, _, _, h7, _⟩
    · have := evs_length s.ev
      rw [h7] at this
      simp at this
      omega
    · rw [evs_length] at h7; omega
  refine app_slR (xs := ev3 (x, s.g.r 0, s.g.r 7)) (m := 1) h4 u40 hi hz0 hz1 hz2 rfl (by decide) (three_at h4) rfl (by intro u hu; simp [ev3] at hu; rcases hu with rfl | rfl | rfl <;> rfl) (by simp only [maxLen]; omega) (by omega) ?_
  intro a' c' w5 h5
  refine st h5 rfl fun w6 h6 => ?_
  refine k _ w6 (errB_nil (gs_shut (s := { s with ev := s.ev ++ [(x, s.g.r 0, s.g.r 7)] }) (z := (a', z.2.1 + 1, c')) rfl ?_))
  have h7 := h6.drop
  rw [← evs_snoc] at h7
  exact h7
end Go.Sk
