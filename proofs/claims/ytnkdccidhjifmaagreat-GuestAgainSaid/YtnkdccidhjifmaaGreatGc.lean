/- Contracts of the layer guest (seat Z): on, Run. -/
import Derived.Test.YtnkdccidhjifmaaGreatGb
set_option linter.unusedVariables false
set_option linter.unusedSimpArgs false
namespace Go.Sk
open Go.RowKit Go.Proofs
variable {w0 w : World} {F G : Asrt} {R : Ending → World → Prop}
variable {T : TypeId} {b m r tb rg : Nat} {q : Int} {ps : List Pg} {p : Pr}
def gStepS (s : Gs) (n : Nat) : Gs := ⟨mvPut s.M (rStep s.M s.g).2.2.2, (rStep s.M s.g).2.2.1, n, s.ev, s.asked⟩
def gOne (L : List Int) (n : Nat) (s : Gs) : Bool × Er2 × Gs :=
  if (rStep s.M s.g).1.isSome = true then (true, up2 (rStep s.M s.g).1, s)
  else if (rStep s.M s.g).2.1 = true then ((gAsk L (IntKind.u64.wrap ((gStepS s n).g.ip - 1)) (gStepS s n)).1 || (gAsk L (IntKind.u64.wrap ((gStepS s n).g.ip - 1)) (gStepS s n)).2.1.isSome, (gAsk L (IntKind.u64.wrap ((gStepS s n).g.ip - 1)) (gStepS s n)).2)
  else (false, none, gStepS s n)
def gOn (L : List Int) : Nat → Gs → Er2 × Gs
  | 0, s => (some (none, 14), s)
  | n + 1, s => if (gOne L n s).1 = true then (gOne L n s).2 else gOn L n (gOne L n s).2.2
structure AskOk (s s' : Gs) : Prop where
  M : s'.M = s.M
  fuel : s'.fuel = s.fuel
  ev : s'.ev.length ≤ s.ev.length + 1
  asked : s'.asked.length ≤ s.asked.length + 3
theorem gAsk_ok (L : List Int) (x : Int) (s : Gs) : AskOk s (gAsk L x s).2.2 := by
  have h0 : AskOk s s := ⟨rfl, rfl, by omega, by omega⟩
  have h1 : ∀ (a o i : Int) (g : Rg), AskOk s { s with asked := s.asked ++ [a, o, i], g := g } := fun a o i g => ⟨rfl, rfl, by simp, by simp⟩
  unfold gAsk
  split
  · exact h0
  split
  · unfold gBind
    split
    · split
      · exact h1 _ _ _ _
      · exact h1 _ _ _ s.g
    · exact h0
  split
  · unfold gTls
    split
    · split
      · split
        · exact h1 _ _ _ _
        · exact h1 _ _ _ s.g
      · exact h1 _ _ _ s.g
    · exact h0
  · exact ⟨rfl, rfl, by simp, by simp⟩
def fuelOf (b : Nat) (w : World) : Nat := match w.cell? ⟨b, 3, none⟩ with | some (.int _ n) => n.toNat | _ => 0
theorem mvPut_of {ps ps' : List Pg} {o : Option (Int × List Int)} (h : PutO ps ps' o) : mv ps' = mvPut (mv ps) o := by
  cases o with
  | none => rw [show ps' = ps from h]; rfl
  | some x => exact Put.mv h
theorem PutO.wf {ps ps' : List Pg} {o : Option (Int × List Int)} (h : PutO ps ps' o) (hw : wfs ps) : wfs ps' := by
  cases o with
  | none => rw [show ps' = ps from h]; exact hw
  | some x => exact Put.wf h
structure Alk (ps' ps : List Pg) : Prop where
  es : memEs ps' = memEs ps
  perm : ∀ k, (pgFind ps' k).map (·.perm) = (pgFind ps k).map (·.perm)
theorem Alk.rfl (ps : List Pg) : Alk ps ps := ⟨Eq.refl _, fun _ => Eq.refl _⟩
theorem Alk.trans {a b c : List Pg} (h : Alk a b) (k : Alk b c) : Alk a c := ⟨h.es.trans k.es, fun n => (h.perm n).trans (k.perm n)⟩
theorem Put.alk {ps ps' : List Pg} {addr : Int} {l : List Int} (h : Put ps ps' addr l) : Alk ps' ps := ⟨h.es, h.perm⟩
theorem PutO.es {ps ps' : List Pg} {o : Option (Int × List Int)} (h : PutO ps ps' o) : Alk ps' ps := by
  cases o with
  | none => rw [show ps' = ps from h]; exact Alk.rfl _
  | some x => exact Put.alk h
theorem mvPut_B {M : Mv} {o : Option (Int × List Int)} (hM : ∀ y, 0 ≤ M.byte y ∧ M.byte y < 256) (ho : ∀ x, o = some x → ∀ y ∈ x.2, 0 ≤ y ∧ y < 256) : ∀ y, 0 ≤ (mvPut M o).byte y ∧ (mvPut M o).byte y < 256 := by
  cases o with
  | none => exact hM
  | some x => exact over_range hM (ho x rfl)
theorem rStep_err {M : Mv} {g : Rg} {e : Int × Int} (h : (rStep M g).1 = some e) : (rStep M g).2.2.2 = none ∧ (rStep M g).2.2.1 = g := by
  unfold rStep rStepL at h ⊢
  generalize rDecode (rFetch M g.ip 0 14) = d at *
  obtain ⟨de, i⟩ := d
  cases de with
  | some c => exact ⟨rfl, rfl⟩
  | none =>
    simp only [] at h ⊢
    unfold rStepI at h ⊢
    generalize rDo M (rStart g i) i = d at *
    obtain ⟨de, p⟩ := d
    cases de with
    | some c => exact ⟨rfl, rfl⟩
    | none =>
      simp only [] at h ⊢
      unfold rStepP at h ⊢
      by_cases c : p.wr = true
      · simp only [if_pos c] at h ⊢
        cases hw : rWrite M 2 11 p.at' p.b with
        | some e => exact ⟨rfl, rfl⟩
        | none => rw [hw] at h; cases h
      · simp only [if_neg c] at h
        cases h
set_option maxHeartbeats 1000000 in
theorem c_on {L : Lk} {s : Gs} (hw : wfs ps) (hM : mv ps = s.M) (hB : ∀ y, 0 ≤ s.M.byte y ∧ s.M.byte y < 256) (hL : L.l.length ≤ 9223372036854775807) (hg : GivesU F L.a L.l) (ha : s.asked.length + 3 * s.fuel ≤ 1000000) (he : s.ev.length + s.fuel ≤ 1000000) (h : S w0 w (gsA b m r tb rg q ps L s * F))
    (k : ∀ v ps' w', wfs ps' → mv ps' = (gOn L.l s.fuel s).2.M → Alk ps' ps → S w0 w' (errB (gOn L.l s.fuel s).1 v * (gsA b m r tb rg q ps' L (gOn L.l s.fuel s).2 * F)) → R (.returned v) w') :
    Calls Tryz.prog 44 #[.pointer (some ⟨b, 0, none⟩)] w R := by
  refine ok_guest_run_on _ ?_
  refine ⟨fun w' => ∃ (s' : Gs) (ps' : List Pg), gOn L.l s.fuel s = gOn L.l s'.fuel s' ∧ wfs ps' ∧ mv ps' = s'.M ∧ Alk ps' ps ∧ (∀ y, 0 ≤ s'.M.byte y ∧ s'.M.byte y < 256) ∧ s'.asked.length + 3 * s'.fuel ≤ 1000000 ∧ s'.ev.length + s'.fuel ≤ 1000000 ∧ S w0 w' (gsA b m r tb rg q ps' L s' * F), fuelOf b,
    ⟨s, ps, rfl, hw, hM, Alk.rfl ps, hB, ha, he, h⟩, ?_⟩
  rintro _ w1 ⟨s1, ps1, hgo, hw1, hM1, hes1, hB1, ha1, he1, h1⟩
  obtain ⟨z, h2⟩ := gs_open h1
  have hc : w1.cell? ⟨b, 3, none⟩ = some (.int .i64 (s1.fuel : Int)) := ld h2 rfl
  have hf1 : fuelOf b w1 = s1.fuel := by unfold fuelOf; rw [hc]; exact Int.toNat_natCast _
  refine ⟨_, hc, ?_⟩
  cases hn : s1.fuel with
  | zero =>
    rw [hgo, hn, gOn] at k
    exact b_t (by simp) (k _ ps1 w1 hw1 hM1 hes1 (errB_code h1))
  | succ n =>
    rw [hn] at h2 hf1
    rw [hn, gOn] at hgo
    refine b_f (by simp; omega) (dr h2 fun w3 h3 => ⟨_, ld h3 rfl, _, ld h3 rfl, ?_⟩)
    refine c_Step (rg := s1.g) hw1 (by rw [hM1]; exact hB1) (h3.eq (mulL _ _ _) |>.eq (show _ = memA m r q ps1 * (pts rg (.cells s1.g.cells.toArray 25 (0, 0)) * (pts b (.cells (rnC m tb rg ((n + 1 : Nat) : Int) z) 107 (0, 0)) * (tabA tb L s1.asked * (slR 49 3 (evs s1.ev) z.1 z.2.1 z.2.2 * F)))) by ac_rfl)) fun v ps2 w4 hp h4 => ⟨_, _, rfl, nq_err h4 ?_⟩
    have hbt := rStep_bt (mv ps1) s1.g
    have hmv := mvPut_of hp
    rw [hM1] at hbt hmv hp h4 ⊢
    have hw2 := hp.wf hw1
    have hes2 := hp.es.trans hes1
    have hB2 := mvPut_B hB1 hbt
    unfold gOne at hgo
    cases hst : (rStep s1.M s1.g).1 with
    | some e =>
      rw [hst, ← errB_up] at h4
      simp only [hst, Option.isSome_some, if_true] at hgo
      rw [hgo] at k
      have hnone := rStep_err hst
      rw [hnone.2] at h4
      have hps : ps2 = ps1 := by rw [hnone.1] at hp; exact hp
      subst hps
      refine b_t rfl (k v ps2 w4 hw2 ?_ hes2 (gs_shutX (z := z) (s := s1) (fuel := ((n + 1 : Nat) : Int)) (by rw [hn]) (h4.eq (by ac_rfl))))
      exact hM1
    | none =>
      rw [hst] at h4
      obtain ⟨rfl, h5'⟩ := err_none h4
      have h5 : S w0 w4 (pts b (.cells (rnC m tb rg ((n + 1 : Nat) : Int) z) 107 (0, 0)) * (memA m r q ps2 * (pts rg (.cells (rStep s1.M s1.g).2.2.1.cells.toArray 25 (0, 0)) * (tabA tb L s1.asked * (slR 49 3 (evs s1.ev) z.1 z.2.1 z.2.2 * F))))) := h5'.eq (by ac_rfl)
      simp only [hst, Option.isSome_none, Bool.false_eq_true, if_false] at hgo
      refine b_f rfl ⟨_, ld h5 rfl, st h5 rfl fun w6 h6 => ?_⟩
      have en : IntKind.i64.wrap (((n + 1 : Nat) : Int) - 1) = (n : Int) := by rw [wi64 (by omega) (by omega)]; omega
      rw [en] at h6
      have h7 : S w0 w6 (gsA b m r tb rg q ps2 L (gStepS s1 n) * F) := gs_shut (s := gStepS s1 n) (fuel := n) (z := z) rfl h6
      have hf6 : ∀ (s' : Gs) (ps' : List Pg) (w' : World), S w0 w' (gsA b m r tb rg q ps' L s' * F) → fuelOf b w' = s'.fuel := fun s' ps' w' h' => by
        obtain ⟨z', h''⟩ := gs_open h'
        have : w'.cell? ⟨b, 3, none⟩ = some (.int .i64 (s'.fuel : Int)) := ld h'' rfl
        unfold fuelOf
        rw [this]
        exact Int.toNat_natCast _
      by_cases ch : (rStep s1.M s1.g).2.1 = true
      · simp only [if_pos ch] at hgo
        refine b_f (by rw [ch]; rfl) ⟨_, ld h6 rfl, nc_mk ⟨_, ld h6 rfl, ?_⟩⟩
        refine c_ask (s := gStepS s1 n) hw2 hmv hL hg (by show s1.asked.length ≤ _; omega) (by show s1.ev.length ≤ _; omega) h7 fun v w8 h8 => ⟨_, _, rfl, ?_⟩
        have hak := gAsk_ok L.l (IntKind.u64.wrap ((gStepS s1 n).g.ip - 1)) (gStepS s1 n)
        have e9 : (rStep s1.M s1.g).2.2.1.ip = (gStepS s1 n).g.ip := rfl
        rw [e9] at h8 ⊢
        generalize gAsk L.l (IntKind.u64.wrap ((gStepS s1 n).g.ip - 1)) (gStepS s1 n) = a at *
        refine ⟨fun y w' => y = (a.1 || a.2.1.isSome) ∧ w' = w8, ?_, ?_⟩
        · cases ha1' : a.1 with
          | true => exact iff_ (by simp) ⟨by simp, rfl⟩
          | false => exact ift rfl (nq_errB h8 ⟨by cases a.2.1 <;> rfl, rfl⟩)
        rintro _ y w9 ⟨rfl, rfl⟩
        by_cases cd : (a.1 || a.2.1.isSome) = true
        · rw [if_pos cd] at hgo
          rw [hgo] at k
          exact b_t cd (k v ps2 w9 hw2 (hmv.trans hak.M.symm) hes2 h8)
        · rw [if_neg cd] at hgo
          have hnn : a.2.1 = none := by
            cases h3 : a.2.1 with
            | none => rfl
            | some x => rw [h3] at cd; simp at cd
          rw [hnn] at h8
          obtain ⟨rfl, h10⟩ := errB_none h8
          refine b_f (nt cd) ⟨⟨a.2.2, ps2, ?_, hw2, hmv.trans hak.M.symm, hes2, ?_, ?_, ?_, h10⟩, ?_⟩
          · rw [hgo, hak.fuel]
            rfl
          · rw [hak.M]; exact hB2
          · have h1 := hak.asked
            have h2 := hak.fuel
            have h3 : (gStepS s1 n).fuel = n := rfl
            have h4 : (gStepS s1 n).asked.length = s1.asked.length := rfl
            omega
          · have h1 := hak.ev
            have h2 := hak.fuel
            have h3 : (gStepS s1 n).fuel = n := rfl
            have h4 : (gStepS s1 n).ev.length = s1.ev.length := rfl
            omega
          · rw [hf6 _ _ _ h10, hf1, hak.fuel]
            show n < n + 1
            omega
      · simp only [if_neg ch, Bool.false_eq_true, if_false] at hgo
        refine b_t (by rw [nt ch]; rfl) ⟨⟨gStepS s1 n, ps2, ?_, hw2, hmv, hes2, hB2, by show s1.asked.length + 3 * n ≤ _; omega, by show s1.ev.length + n ≤ _; omega, h7⟩, ?_⟩
        · exact hgo
        · rw [hf6 _ _ _ h7, hf1]
          show n < n + 1
          omega
theorem c_Run {L : Lk} {M : Mv} {g : Rg} {fuel : Nat} {asked : List Int} (hw : wfs ps) (hM : mv ps = M) (hB : ∀ y, 0 ≤ M.byte y ∧ M.byte y < 256) (hL : L.l.length ≤ 9223372036854775807) (hg : GivesU F L.a L.l) (ha : asked.length + 3 * fuel ≤ 1000000) (he : fuel ≤ 1000000)
    (h : S w0 w (memA m r q ps * (pts rg (.cells g.cells.toArray 25 (0, 0)) * (tabA tb L asked * F))))
    (k : ∀ v a c ps' w', wfs ps' → mv ps' = (gOn L.l fuel ⟨M, g, fuel, [], asked⟩).2.M → Alk ps' ps →
      S w0 w' (errB (gOn L.l fuel ⟨M, g, fuel, [], asked⟩).1 v * (memA m r q ps' * (pts rg (.cells (gOn L.l fuel ⟨M, g, fuel, [], asked⟩).2.g.cells.toArray 25 (0, 0)) * (tabA tb L (gOn L.l fuel ⟨M, g, fuel, [], asked⟩).2.asked * (slR 49 3 (evs (gOn L.l fuel ⟨M, g, fuel, [], asked⟩).2.ev) a (gOn L.l fuel ⟨M, g, fuel, [], asked⟩).2.ev.length c * F))))) →
      R (.returned (.tuple #[.slice a (gOn L.l fuel ⟨M, g, fuel, [], asked⟩).2.ev.length c, .int .i64 ((gOn L.l fuel ⟨M, g, fuel, [], asked⟩).2.fuel : Int), v])) w') :
    Calls Tryz.prog 22 #[.pointer (some ⟨m, 0, none⟩), .iface 43 (.pointer (some ⟨tb, 0, none⟩)), .pointer (some ⟨rg, 0, none⟩), .int .i64 (fuel : Int)] w R := by
  refine ok_guest_Run _ _ _ _ _ ?_
  refine ⟨fun y w' => y = false ∧ w' = w, ift rfl (ift rfl ⟨decide_eq_false (by omega), rfl⟩), ?_⟩
  rintro _ y w1 ⟨rfl, rfl⟩
  refine b_f rfl (al h fun b w2 h2 => ?_)
  have h3 : S w0 w2 (gsA b m r tb rg q ps L ⟨M, g, fuel, [], asked⟩ * F) := gs_shut (z := (none, 0, 0)) (fuel := fuel) rfl (h2.eq (by
    show _ = _ * (_ * (_ * (_ * (slR 49 3 [] none 0 0 * F))))
    rw [slR_nil, emp_mul]
    rfl))
  refine c_on (s := ⟨M, g, fuel, [], asked⟩) hw hM hB hL hg ha (by simpa using he) h3 fun v ps' w4 hw' hM' hes h4 => ⟨_, rfl, ?_⟩
  simp only [] at h4 hM'
  generalize gOn L.l fuel ⟨M, g, fuel, [], asked⟩ = d at *
  obtain ⟨z, h5⟩ := gs_open (h4.eq (mulL _ _ _))
  have hz : z.2.1 = d.2.ev.length := by
    have h6 : S w0 w4 (slR 49 3 (evs d.2.ev) z.1 z.2.1 z.2.2 * _) := h5.eq (show _ = slR 49 3 (evs d.2.ev) z.1 z.2.1 z.2.2 * (pts b (.cells (rnC m tb rg d.2.fuel z) 107 (0, 0)) * (memA m r q ps' * (pts rg (.cells d.2.g.cells.toArray 25 (0, 0)) * (tabA tb L d.2.asked * (errB d.1 v * F))))) by ac_rfl)
    rcases slR_cases h6.sat with ⟨_, h6, _, h7, _⟩ | ⟨_, _, _, h7, _⟩
    · have := evs_length d.2.ev
      rw [h7] at this
      simp at this
      omega
    · rw [evs_length] at h7; omega
  obtain ⟨za, zn, zc⟩ := z
  simp only [] at hz
  subst hz
  refine dr h5 fun w6 h6 => ⟨_, _, _, ld h6 rfl, _, ld h6 rfl, k v za zc ps' w6 hw' hM' hes ?_⟩
  exact (h6.eq (show _ = pts b (.cells (rnC m tb rg d.2.fuel (za, d.2.ev.length, zc)) 107 (0, 0)) * (errB d.1 v * (memA m r q ps' * (pts rg (.cells d.2.g.cells.toArray 25 (0, 0)) * (tabA tb L d.2.asked * (slR 49 3 (evs d.2.ev) za d.2.ev.length zc * F))))) by ac_rfl)).drop
end Go.Sk
