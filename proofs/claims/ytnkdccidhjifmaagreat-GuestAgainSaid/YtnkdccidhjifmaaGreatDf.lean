/- Contracts of the layer exec (seat Z): the step. -/
import Derived.Test.YtnkdccidhjifmaaGreatDd
import Derived.Test.YtnkdccidhjifmaaGreatDe
set_option linter.unusedVariables false
set_option linter.unusedSimpArgs false
namespace Go.Sk
open Go.RowKit Go.Proofs
variable {w0 w : World} {F G : Asrt} {R : Ending → World → Prop}
variable {T : TypeId} {b m r : Nat} {q : Int} {ps : List Pg} {p : Pr}
def PutIf (ps ps' : List Pg) (addr : Int) (l : List Int) : Er → Prop
  | none => Put ps ps' addr l
  | some _ => ps' = ps
theorem c_putG {addr perm code : Int} {l : List Int} {a : Option Addr} {c : Nat} (hw : wfs ps) (hn : l.length ≤ 100000) (hg : Gives F a l) (h : S w0 w (memA m r q ps * F))
    (k : ∀ v ps' w', PutIf ps ps' addr l (rWrite (mv ps) perm code addr l) → S w0 w' (errA (rWrite (mv ps) perm code addr l) v * (memA m r q ps' * F)) → R (.returned v) w') :
    Calls Tryz.prog 53 #[.pointer (some ⟨m, 0, none⟩), .int .u64 addr, .slice a l.length c, .int .i64 perm, .int .i64 code] w R := by
  refine c_put hw hn hg h ?_ ?_
  · intro hall ps' w' hp h'
    have e : rWrite (mv ps) perm code addr l = none := by
      unfold rWrite
      rw [mBad_all l.length 0 fun j _ hj => mv_ok.2 (hall j (by omega))]
    rw [e] at k
    exact k _ ps' w' hp (err_nil h')
  · intro i hi hall hbad b w' h'
    have e : rWrite (mv ps) perm code addr l = some ((addr + i) % 18446744073709551616, code) := by
      unfold rWrite
      rw [mBad_some (k := i) (fun hk => hbad (mv_ok.1 hk)) l.length 0 (by omega) (by omega) fun j _ hj => mv_ok.2 (hall j hj)]
    rw [e] at k
    exact k _ ps w' rfl (err_some h')
theorem c_putE {addr perm code : Int} {l : List Int} {a : Option Addr} {n c : Nat} (hw : wfs ps) (hn : l.length ≤ 100000) (h : S w0 w (memA m r q ps * (slA 5 (u8s l) a n c * F)))
    (k : ∀ v ps' w', PutIf ps ps' addr l (rWrite (mv ps) perm code addr l) → S w0 w' (errA (rWrite (mv ps) perm code addr l) v * (memA m r q ps' * (slA 5 (u8s l) a n c * F))) → R (.returned v) w') :
    Calls Tryz.prog 53 #[.pointer (some ⟨m, 0, none⟩), .int .u64 addr, .slice a n c, .int .i64 perm, .int .i64 code] w R := by
  obtain rfl : n = l.length := by have := slA_len (h.eq (mulL _ _ _)); simpa [u8s_length] using this
  exact c_putG hw hn Gives.sl h k
theorem c_Write {addr : Int} {l : List Int} {a : Option Addr} {n c : Nat} (hw : wfs ps) (hn : l.length ≤ 100000) (h : S w0 w (memA m r q ps * (slA 5 (u8s l) a n c * F)))
    (k : ∀ v ps' w', PutIf ps ps' addr l (rWrite (mv ps) 2 11 addr l) → S w0 w' (errA (rWrite (mv ps) 2 11 addr l) v * (memA m r q ps' * (slA 5 (u8s l) a n c * F))) → R (.returned v) w') :
    Calls Tryz.prog 40 #[.pointer (some ⟨m, 0, none⟩), .int .u64 addr, .slice a n c] w R :=
  ok_vmem_Mem_Write _ _ _ _ _ (c_putE hw hn h fun v ps' w' hp h' => ⟨_, rfl, k v ps' w' hp h'⟩)
theorem c_Poke {addr : Int} {l : List Int} {a : Option Addr} {c : Nat} (hw : wfs ps) (hn : l.length ≤ 100000) (hg : Gives F a l) (h : S w0 w (memA m r q ps * F))
    (k : ∀ v ps' w', PutIf ps ps' addr l (rWrite (mv ps) 0 6 addr l) → S w0 w' (errA (rWrite (mv ps) 0 6 addr l) v * (memA m r q ps' * F)) → R (.returned v) w') :
    Calls Tryz.prog 35 #[.pointer (some ⟨m, 0, none⟩), .int .u64 addr, .slice a l.length c] w R :=
  ok_vmem_Mem_Poke _ _ _ _ _ (c_putG hw hn hg h fun v ps' w' hp h' => ⟨_, rfl, k v ps' w' hp h'⟩)
theorem c_Fetch {addr : Int} {n : Nat} (hw : wfs ps) (hn : n ≤ 100000) (h : S w0 w (memA m r q ps * F))
    (k : ∀ v a c w', S w0 w' (errA (rRead (mv ps) 1 12 addr n).1 v * (memA m r q ps * (slA 5 (u8s (rRead (mv ps) 1 12 addr n).2) a (rRead (mv ps) 1 12 addr n).2.length c * F))) →
      R (.returned (.tuple #[.slice a (rRead (mv ps) 1 12 addr n).2.length c, v])) w') :
    Calls Tryz.prog 37 #[.pointer (some ⟨m, 0, none⟩), .int .u64 addr, .int .u64 (n : Int)] w R :=
  ok_vmem_Mem_Fetch _ _ _ (c_getE hw hn h fun v a c w' h' => ⟨_, _, _, _, rfl, k v a c w' h'⟩)
/-! ### The step -/
def rFetch (M : Mv) (ip : Int) : Nat → Nat → List Int
  | _, 0 => []
  | i, n + 1 => if M.ok 1 ((ip + i) % 18446744073709551616) = true then M.byte ((ip + i) % 18446744073709551616) :: rFetch M ip (i + 1) n else []
theorem rFetch_len (M : Mv) (ip : Int) : ∀ n i, (rFetch M ip i n).length ≤ n
  | 0, _ => Nat.le_refl _
  | n + 1, i => by
    rw [rFetch]
    split
    · have := rFetch_len M ip n (i + 1)
      simp only [List.length_cons]
      omega
    · simp
theorem rFetch_bytes {M : Mv} {ip : Int} (hB : ∀ y, 0 ≤ M.byte y ∧ M.byte y < 256) : ∀ n i, ∀ x ∈ rFetch M ip i n, 0 ≤ x ∧ x < 256
  | 0, _, x, h => by cases h
  | n + 1, i, x, h => by
    rw [rFetch] at h
    split at h
    · rcases List.mem_cons.1 h with rfl | h
      · exact hB _
      · exact rFetch_bytes hB n (i + 1) x h
    · cases h
def rStart (g : Rg) (i : Ins) : Pr := ⟨none, g, IntKind.u64.wrap (g.ip + IntKind.u64.wrap i.size), false, 0, []⟩
abbrev StR := Er × Bool × Rg × Option (Int × List Int)
def rStepP (M : Mv) (g : Rg) (i : Ins) (p : Pr) : StR :=
  if p.wr = true then (match rWrite M 2 11 p.at' p.b with | some e => (some e, false, g, none) | none => (none, i.op == 30, { p.r with ip := p.next }, some (p.at', p.b))) else (none, i.op == 30, { p.r with ip := p.next }, none)
def rStepI (M : Mv) (g : Rg) (i : Ins) : StR := match (rDo M (rStart g i) i).1 with | some e => (some e, false, g, none) | none => rStepP M g i (rDo M (rStart g i) i).2
def rStepL (M : Mv) (g : Rg) (l : List Int) : StR := match (rDecode l).1 with
  | some c => (some (if c = 4 then (IntKind.u64.wrap (g.ip + IntKind.u64.wrap l.length), 12) else (g.ip, 13)), false, g, none)
  | none => rStepI M g (rDecode l).2
def rStep (M : Mv) (g : Rg) : StR := rStepL M g (rFetch M g.ip 0 14)
def PutO (ps ps' : List Pg) : Option (Int × List Int) → Prop
  | none => ps' = ps
  | some x => Put ps ps' x.1 x.2
theorem bad_code {l : List Int} {c : Int} (h : (rDecode l).1 = some c) : True := trivial
theorem mStore_b8 (p : Pr) (a v : Int) {x : Nat} (h : x ≤ 8) : (mStore p a v x).b.length ≤ 8 := by show (bytesLE v x).length ≤ 8; rw [bytesLE_length]; exact h
/-- What is written is little. -/
def Pr.lt (p : Pr) : Prop := p.b.length ≤ 8
theorem rSet_lt {p : Pr} {o : Opn} {v : Int} (ho : o.ok) (h : p.lt) : (rSet p o v).lt := by
  have := ho.wr
  unfold rSet
  split
  · exact mStore_b8 _ _ _ (by omega)
  · split <;> exact h
theorem rBin_lt {p : Pr} {i : Ins} {u v x : Int} (ho : i.a.ok) (h : p.lt) : (rBin p i u v x).lt := by
  unfold rBin
  split
  · exact rSet_lt ho h
  split
  · exact rSet_lt ho h
  split
  · exact h
  split
  · exact rSet_lt ho h
  split
  · exact rSet_lt ho h
  split
  · exact rSet_lt ho h
  split
  · exact h
  · exact rSet_lt ho (by unfold Pr.lt; rw [mShift_b]; exact h)
theorem rUn_lt {p : Pr} {i : Ins} {u x : Int} (ho : i.a.ok) (h : p.lt) : (rUn p i u x).lt := by
  unfold rUn
  split
  · exact rSet_lt ho h
  split
  · exact rSet_lt ho h
  split
  · exact rSet_lt (p := mSum p u 1 x) ho h
  split
  · exact rSet_lt (p := mLess p u 1 x) ho h
  · exact h
theorem rJump_lt {M : Mv} {p : Pr} {o : Opn} (h : p.lt) : (rJump M p o).2.lt := by
  unfold rJump
  split <;> exact h
theorem rFlow_lt {M : Mv} {p : Pr} {i : Ins} (ho : i.ok) (h : p.lt) : (rFlow M p i).2.lt := by
  unfold rFlow
  split
  · show Pr.lt (if _ then _ else _)
    split
    · exact mStore_b8 _ _ _ (by omega)
    · exact h
  split
  · show Pr.lt (if _ then _ else _)
    split
    · unfold rPop
      split
      · exact h
      · exact rSet_lt ho.a h
    · exact h
  split
  · show Pr.lt (if _ then _ else _)
    split
    · exact mStore_b8 _ _ _ (by omega)
    · exact rJump_lt h
  split
  · exact rJump_lt h
  split
  · split
    · exact rJump_lt h
    · exact h
  split
  · show Pr.lt (if _ then _ else _)
    split <;> exact h
  · exact h
theorem rDo_lt {M : Mv} {p : Pr} {i : Ins} (ho : i.ok) (h : p.lt) : (rDo M p i).2.lt := by
  unfold rDo
  split
  · show Pr.lt (if _ then _ else _)
    split
    · exact rBin_lt ho.a h
    · exact h
  split
  · show Pr.lt (if _ then _ else _)
    split
    · exact rUn_lt ho.a h
    · exact h
  split
  · show Pr.lt (if _ then _ else _)
    split
    · exact rSet_lt ho.a h
    · exact h
  split
  · unfold rMove
    show Pr.lt (if _ then _ else _)
    split
    · exact rSet_lt ho.a h
    · exact h
  split
  · exact rSet_lt ho.a h
  split
  · exact rSet_lt ho.a h
  · exact rFlow_lt ho h
set_option maxHeartbeats 1000000 in
theorem c_Step {g : Nat} {rg : Rg} (hw : wfs ps) (hB : ∀ y, 0 ≤ (mv ps).byte y ∧ (mv ps).byte y < 256) (h : S w0 w (memA m r q ps * (pts g (.cells rg.cells.toArray T (0, 0)) * F)))
    (k : ∀ v ps' w', PutO ps ps' (rStep (mv ps) rg).2.2.2 → S w0 w' (errA (rStep (mv ps) rg).1 v * (memA m r q ps' * (pts g (.cells (rStep (mv ps) rg).2.2.1.cells.toArray T (0, 0)) * F))) →
      R (.returned (.tuple #[.bool (rStep (mv ps) rg).2.1, v])) w') :
    Calls Tryz.prog 16 #[.pointer (some ⟨m, 0, none⟩), .pointer (some ⟨g, 0, none⟩)] w R := by
  refine ok_exec_Step _ _ ?_
  refine ⟨fun y w' => y = false ∧ w' = w, ift rfl ⟨rfl, rfl⟩, ?_⟩
  rintro _ y w1 ⟨rfl, rfl⟩
  refine b_f rfl ?_
  refine ⟨fun z w' => S w0 w' (slA 5 (u8s (rFetch (mv ps) rg.ip 0 14)) z.1 z.2.1 z.2.2 * (memA m r q ps * (pts g (.cells rg.cells.toArray T (0, 0)) * F))), ?_, ?_⟩
  · refine ⟨fun z w' => ∃ l : List Int, l.length ≤ 14 ∧ rFetch (mv ps) rg.ip 0 14 = l ++ rFetch (mv ps) rg.ip l.length (14 - l.length) ∧ S w0 w' (slA 5 (u8s l) z.1 z.2.1 z.2.2 * (memA m r q ps * (pts g (.cells rg.cells.toArray T (0, 0)) * F))), fun z _ => 14 - z.2.1, ⟨[], by simp, rfl, h.eq (by show _ = slA 5 [] none 0 0 * _; rw [slA_nil, emp_mul])⟩, ?_⟩
    rintro _ ⟨a, n, c⟩ w2 ⟨l, hl, he, h2⟩
    obtain rfl : n = l.length := by have := slA_len h2; simpa [u8s_length] using this
    refine dc (fun hlt => ?_) (fun hlt => ?_)
    · have hlt' : l.length < 14 := by simp only [] at hlt; omega
      refine nc_mk ⟨_, ld h2 rfl, ?_⟩
      have ea : IntKind.u64.wrap (rg.ip + IntKind.u64.wrap (l.length : Int)) = (rg.ip + l.length) % 18446744073709551616 := by
        rw [w64, w64]; omega
      rw [ea]
      refine c_Fetch (n := 1) hw (by omega) (h2.eq (mulL _ _ _)) fun v a2 c2 w3 h3 => ⟨_, _, _, _, rfl, nq_err h3 ?_⟩
      have hs : 14 - l.length = (14 - (l.length + 1)) + 1 := by omega
      by_cases hok : (mv ps).ok 1 ((rg.ip + l.length) % 18446744073709551616) = true
      · have e : rRead (mv ps) 1 12 ((rg.ip + l.length) % 18446744073709551616) 1 = (none, [(mv ps).byte ((rg.ip + l.length) % 18446744073709551616)]) := by
          unfold rRead
          rw [mBad_all 1 0 fun j h1 h2 => by obtain rfl : j = 0 := by omega
                                             simpa using hok]
          simp [mList]
        rw [e] at h3 ⊢
        obtain ⟨rfl, h4⟩ := err_none h3
        refine b_f rfl ?_
        have h5 : S w0 w3 (slA 5 (u8s [(mv ps).byte ((rg.ip + l.length) % 18446744073709551616)]) a2 1 c2 * (slA 5 (u8s l) a l.length c * (memA m r q ps * (pts g (.cells rg.cells.toArray T (0, 0)) * F)))) := h4.eq (by
          show memA m r q ps * (slA 5 (u8s [(mv ps).byte ((rg.ip + l.length) % 18446744073709551616)]) a2 1 c2 * (slA 5 (u8s l) a l.length c * _)) = _
          ac_rfl)
        obtain ⟨ad, rfl, hc⟩ := slA_rd h5 (i := 0) (by simp [u8s])
        have e0 : ad.add 0 = ad := by unfold Addr.add; split <;> simp_all
        rw [e0] at hc
        refine app8 (h5.drop) hc (by rw [u8s_length]; omega) ?_
        intro a' n' c' w5 h6 hn
        refine ⟨⟨l ++ [(mv ps).byte ((rg.ip + l.length) % 18446744073709551616)], by simp; omega, ?_, ?_⟩, ?_⟩
        · rw [he, hs, rFetch, if_pos hok, List.append_assoc]
          simp
        · rw [u8s_snoc]; exact h6
        · simp only []; rw [hn, u8s_length]; omega
      · have e : rRead (mv ps) 1 12 ((rg.ip + l.length) % 18446744073709551616) 1 = (some (((rg.ip + l.length) % 18446744073709551616 + (0 : Nat)) % 18446744073709551616, 12), []) := by
          unfold rRead
          rw [mBad_some (k := 0) (by simpa using hok) 1 0 (by omega) (by omega) fun j h1 h2 => by omega]
        rw [e] at h3
        refine b_t (by rw [e]; rfl) ?_
        have e9 : rFetch (mv ps) rg.ip 0 14 = l := by rw [he, hs, rFetch, if_neg hok, List.append_nil]
        show S w0 w3 (slA 5 (u8s (rFetch (mv ps) rg.ip 0 14)) a l.length c * _)
        rw [e9]
        exact (h3.eq (show errA _ v * (memA m r q ps * (slA 5 (u8s []) a2 0 c2 * (slA 5 (u8s l) a l.length c * (pts g (.cells rg.cells.toArray T (0, 0)) * F)))) = (errA _ v * slA 5 (u8s []) a2 0 c2) * (slA 5 (u8s l) a l.length c * (memA m r q ps * (pts g (.cells rg.cells.toArray T (0, 0)) * F))) by ac_rfl)).drop
    · have e9 : rFetch (mv ps) rg.ip 0 14 = l := by
        have : 14 - l.length = 0 := by simp only [] at hlt; omega
        rw [he, this, rFetch, List.append_nil]
      show S w0 w2 (slA 5 (u8s (rFetch (mv ps) rg.ip 0 14)) a l.length c * _)
      rw [e9]
      exact h2
  rintro _ ⟨a, n, c⟩ w2 h2
  unfold rStep at k
  have hl : isBytes (rFetch (mv ps) rg.ip 0 14) := ⟨by have := rFetch_len (mv ps) rg.ip 14 0; omega, rFetch_bytes hB 14 0⟩
  generalize rFetch (mv ps) rg.ip 0 14 = l at *
  obtain rfl : n = l.length := by have := slA_len h2; simpa [u8s_length] using this
  refine c_Decode hl h2 fun w3 h3 => ⟨_, _, _, _, _, _, _, _, _, _, _, _, _, _, _, _, _, _, _, _, _, _, _, _, _, _, _, _, _, _, _, _, _, _, rfl, al h3 fun b4 w4 h4 => sww h4 rfl rfl trivial fun w5 h5' => nq_bad ?_⟩
  have hok := rDecode_ok hl
  unfold rStepL at k
  generalize rDecode l = d at *
  obtain ⟨de, i⟩ := d
  have h5 : S w0 w5 (memA m r q ps * (pts g (.cells rg.cells.toArray T (0, 0)) * (pts b4 (.cells i.cells.toArray 65 (0, 0)) * (slA 5 (u8s l) a l.length c * F)))) := h5'.eq (by
    show pts b4 (.cells i.cells.toArray 65 (0, 0)) * _ = _
    ac_rfl)
  have fin : ∀ (e : Er) (v : Value) (ps' : List Pg) (o X : Asrt) (w' : World), S w0 w' (errA e v * (memA m r q ps' * (o * (X * (slA 5 (u8s l) a l.length c * F))))) → S w0 w' (errA e v * (memA m r q ps' * (o * F))) := fun e v ps' o X w' h' =>
    (h'.eq (show _ = (X * slA 5 (u8s l) a l.length c) * _ by ac_rfl)).drop
  have edge : ∀ (x y : Int) (w' : World) (bb : Nat), S w0 w' (pts bb (.cells #[.int .u64 x, .iface 37 (.int .i64 y)] 92 (0, 0)) * (memA m r q ps * (pts g (.cells rg.cells.toArray T (0, 0)) * (pts b4 (.cells i.cells.toArray 65 (0, 0)) * (slA 5 (u8s l) a l.length c * F))))) → S w0 w' (errA (some (x, y)) (.iface 90 (.pointer (some ⟨bb, 0, none⟩))) * (memA m r q ps * (pts g (.cells rg.cells.toArray T (0, 0)) * F))) := fun x y w' bb h' =>
    fin _ _ ps _ _ w' (err_some h')
  cases de with
  | some c =>
    simp only [] at k
    refine b_f rfl ⟨_, eq_code _ _ _ _ _, ?_⟩
    by_cases c4 : c = 4
    · simp only [if_pos c4] at k
      refine b_t (by simpa using c4) (dr h5 fun w6 h6 => nc_mk ⟨_, ld h6 rfl, al h6 fun b7 w7 h7 => ?_⟩)
      exact k _ ps w7 rfl (edge _ _ w7 b7 h7)
    · simp only [if_neg c4] at k
      refine b_f (by simpa using c4) (dr h5 fun w6 h6 => nc_mk ⟨_, ld h6 rfl, al h6 fun b7 w7 h7 => ?_⟩)
      exact k _ ps w7 rfl (edge _ _ w7 b7 h7)
  | none =>
    simp only [] at k
    obtain ⟨ho, hx⟩ := hok rfl
    simp only [] at ho hx
    refine b_t rfl (dr h5 fun w6 h6 => nc_mk ?_)
    iterate 23 refine ⟨_, ld h6 rfl, ?_⟩
    refine nc_mk ?_
    iterate 2 refine ⟨_, ld h6 rfl, ?_⟩
    refine al h6 fun b8 w7 h7 => ?_
    iterate 33 refine ⟨_, ld h7 rfl, ?_⟩
    have h8 : S w0 w7 (prA 95 b8 ((rStart rg i).wm (some ⟨m, 0, none⟩)) * (memA m r q ps * (pts g (.cells rg.cells.toArray T (0, 0)) * (pts b4 (.cells i.cells.toArray 65 (0, 0)) * (slA 5 (u8s l) a l.length c * F))))) := pr_shut (z := (none, 0, 0)) (h7.eq (by
      show pts b8 _ * _ = pts b8 _ * (slA 5 [] none 0 0 * _)
      rw [slA_nil, emp_mul]
      rfl))
    refine c_do (i := i) ho hx hw rfl h8 fun v w8 h9 => ⟨_, rfl, nq_err h9 ?_⟩
    rw [rDo_wm] at h9 ⊢
    have hlt := rDo_lt (M := mv ps) (p := rStart rg i) ho (show (0 : Nat) ≤ 8 by omega)
    unfold rStepI at k
    generalize rDo (mv ps) (rStart rg i) i = dd at *
    obtain ⟨e, p⟩ := dd
    simp only [] at h9 hlt k ⊢
    cases e with
    | some e =>
      refine b_t rfl (k v ps w8 rfl (fin _ v ps _ _ w8 ((h9.eq (show _ = prA 95 b8 (p.wm (some ⟨m, 0, none⟩)) * (errA (some e) v * (memA m r q ps * (pts g (.cells rg.cells.toArray T (0, 0)) * (pts b4 (.cells i.cells.toArray 65 (0, 0)) * (slA 5 (u8s l) a l.length c * F))))) by ac_rfl)).drop)))
    | none =>
    obtain ⟨rfl, h10⟩ := err_none h9
    refine b_f rfl ?_
    obtain ⟨z, h11⟩ := pr_open h10
    refine ⟨_, ld h11 rfl, ?_⟩
    simp only [] at k
    unfold rStepP at k
    refine ⟨fun w' => ∃ ps', PutO ps ps' (if p.wr = true then some (p.at', p.b) else none) ∧ (p.wr = true → rWrite (mv ps) 2 11 p.at' p.b = none) ∧ S w0 w' (pts b8 (.cells ((p.wm (some ⟨m, 0, none⟩)).cells z).toArray 95 (0, 0)) * (slA 5 (u8s p.b) z.1 z.2.1 z.2.2 * (memA m r q ps' * (pts g (.cells rg.cells.toArray T (0, 0)) * (pts b4 (.cells i.cells.toArray 65 (0, 0)) * (slA 5 (u8s l) a l.length c * F)))))), ?_, ?_⟩
    · by_cases c1 : p.wr = true
      · refine b_t c1 (dr h11 fun w12 h12 => ?_)
        refine ⟨_, ld h12 rfl, _, _, _, ld h12 rfl, ?_⟩
        refine c_Write (addr := p.at') (l := p.b) hw (by unfold Pr.lt at hlt; omega) (h12.eq (show pts b8 _ * (slA 5 (u8s p.b) z.1 z.2.1 z.2.2 * (memA m r q ps * (pts g (.cells rg.cells.toArray T (0, 0)) * (pts b4 (.cells i.cells.toArray 65 (0, 0)) * (slA 5 (u8s l) a l.length c * F))))) = memA m r q ps * (slA 5 (u8s p.b) z.1 z.2.1 z.2.2 * (pts b8 _ * (pts g (.cells rg.cells.toArray T (0, 0)) * (pts b4 (.cells i.cells.toArray 65 (0, 0)) * (slA 5 (u8s l) a l.length c * F))))) by ac_rfl)) fun v ps' w13 hp h13 => ⟨_, rfl, nq_err h13 ?_⟩
        rw [if_pos c1] at k
        cases he : rWrite (mv ps) 2 11 p.at' p.b with
        | some e =>
          rw [he] at h13 hp
          simp only [he] at k
          obtain rfl : ps' = ps := hp
          refine b_t rfl (k v ps' w13 rfl (fin _ v ps' _ _ w13 ((h13.eq (show _ = (slA 5 (u8s p.b) z.1 z.2.1 z.2.2 * pts b8 (.cells ((p.wm (some ⟨m, 0, none⟩)).cells z).toArray 95 (0, 0))) * (errA (some e) v * (memA m r q ps' * (pts g (.cells rg.cells.toArray T (0, 0)) * (pts b4 (.cells i.cells.toArray 65 (0, 0)) * (slA 5 (u8s l) a l.length c * F))))) by ac_rfl)).drop)))
        | none =>
          rw [he] at h13 hp
          obtain ⟨rfl, h14⟩ := err_none h13
          refine b_f rfl ⟨ps', by rw [if_pos c1]; exact hp, fun _ => rfl, h14.eq (by ac_rfl)⟩
      · exact b_f (nt c1) ⟨ps, by rw [if_neg c1]; rfl, fun hh => absurd hh c1, h11⟩
    rintro _ w12 ⟨ps', hp, hwr, h12⟩
    refine ⟨_, ld h12 rfl, st h12 rfl fun w13 h13 => ?_⟩
    iterate 23 refine ⟨_, ld h13 rfl, ?_⟩
    refine nc_mk (sww h13 rfl rfl trivial fun w14 h14 => ⟨_, ld h14 rfl, ?_⟩)
    have h15 : S w0 w14 (memA m r q ps' * (pts g (.cells ({ p.r with ip := p.next } : Rg).cells.toArray T (0, 0)) * ((pts b4 (.cells i.cells.toArray 65 (0, 0)) * (pts b8 _ * slA 5 (u8s p.b) z.1 z.2.1 z.2.2)) * (slA 5 (u8s l) a l.length c * F)))) := h14.eq (by
      show pts b8 _ * (slA 5 (u8s p.b) z.1 z.2.1 z.2.2 * (memA m r q ps' * (pts g (.cells ({ p.r with ip := p.next } : Rg).cells.toArray T (0, 0)) * _))) = _
      ac_rfl)
    by_cases c1 : p.wr = true
    · simp only [if_pos c1, hwr c1] at k hp
      exact k _ ps' w14 hp (fin _ _ ps' _ _ w14 (err_nil h15))
    · simp only [if_neg c1] at k hp
      exact k _ ps' w14 hp (fin _ _ ps' _ _ w14 (err_nil h15))
end Go.Sk
