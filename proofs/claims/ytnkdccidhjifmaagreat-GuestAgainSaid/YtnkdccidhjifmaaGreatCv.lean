/- Contracts of the layer vmem (seat Z). -/
import Derived.Test.YtnkdccidhjifmaaGreatNum
import Derived.Test.YtnkdccidhjifmaaGreatOkVm
set_option linter.unusedVariables false
set_option linter.unusedSimpArgs false
namespace Go.Sk
open Go.RowKit Go.Proofs

/-! ### Pages -/
structure Pg where
  num : Int
  blk : Nat
  perm : Int
  dat : Option (Nat × List Int)
def Pg.wf (p : Pg) : Prop := match p.dat with | none => True | some (_, l) => l.length = 4096
def Pg.sl (p : Pg) : Value := match p.dat with | none => .slice none 0 0 | some (d, _) => .slice (some ⟨d, 0, none⟩) 4096 4096
def Pg.obj (p : Pg) : Obj := .cells #[p.sl, .int .i64 p.perm] 119 (0, 0)
def bytesO (l : List Int) : Obj := .cells (l.map (Value.int .u8)).toArray 5 (0, 0)
def Pg.dA (p : Pg) : Asrt := match p.dat with | none => emp | some (d, l) => pts d (bytesO l)
def pgA (p : Pg) : Asrt := pts p.blk p.obj * p.dA
def Pg.byte (p : Pg) (i : Nat) : Int := match p.dat with | none => 0 | some (_, l) => l.getD i 0

theorem pgA_none (n : Int) (b : Nat) (p : Int) : pgA ⟨n, b, p, none⟩ = pts b (.cells #[.slice none 0 0, .int .i64 p] 119 (0, 0)) := mul_emp _
theorem pgA_some (n : Int) (b : Nat) (p : Int) (d : Nat) (l : List Int) : pgA ⟨n, b, p, some (d, l)⟩ = pts b (.cells #[.slice (some ⟨d, 0, none⟩) 4096 4096, .int .i64 p] 119 (0, 0)) * pts d (.cells (l.map (Value.int .u8)).toArray 5 (0, 0)) := rfl
theorem bytes_get (l : List Int) {i : Nat} (hi : i < l.length) : (l.map (Value.int .u8)).toArray[i]? = some (.int .u8 (l.getD i 0)) := by
  simp [hi, List.getD_eq_getElem?_getD]
theorem c_at {w0 w : World} {F : Asrt} {R : Ending → World → Prop} {p : Pg} {i : Nat} (hw : p.wf) (hi : i < 4096) (h : S w0 w (pgA p * F))
    (k : R (.returned (.int .u8 (p.byte i))) w) : Calls Tryz.prog 48 #[.pointer (some ⟨p.blk, 0, none⟩), .int .u64 i] w R := by
  obtain ⟨num, blk, perm, dat⟩ := p
  refine ok_vmem_bytes_at _ _ ?_
  cases dat with
  | none =>
    unfold pgA Pg.obj Pg.sl Pg.dA at h
    rw [mulA] at h
    refine ⟨_, _, _, ld h rfl, ?_⟩
    exact k
  | some dl =>
    obtain ⟨d, l⟩ := dl
    unfold pgA Pg.obj Pg.sl Pg.dA bytesO at h
    rw [mulA] at h
    have hl : l.length = 4096 := hw
    refine ⟨_, _, _, ld h rfl, ?_⟩
    refine ⟨_, _, _, ld h rfl, ?_⟩
    refine ix_mk (by omega) (by omega) ?_
    refine ⟨_, ld h (bytes_get l (by simp; omega)), ?_⟩
    simpa [Pg.byte] using k

/-- A new row of bytes. -/
theorem mk8 {w0 w : World} {A : Asrt} {n : Nat} {K : Option Addr → Nat → Nat → World → Prop} (h : S w0 w A) (hn : n ≤ 100000)
    (k : ∀ d w', S w0 w' (pts d (bytesO (List.replicate n 0)) * A) → K (some ⟨d, 0, none⟩) n n w') :
    ∃ (a' : Option Addr) (n' c' : Nat), ∃ w' : World, (Instr.makeSlice 39 (.int .i64 (n : Int)) (.int .i64 (n : Int))).run Tryz.prog w = .ok (.slice a' n' c') w' ∧ K a' n' c' w' := by
  obtain ⟨i, hi, hz0, hz1, hz2⟩ := info_parts i5
  obtain ⟨w', hr, ho, hg⟩ := run_makeSlice_full (P := Tryz.prog) w w.heap.size 39 5 i (.int .u8 0) 1 u39 hi hz0 hz1 .i64 .i64 n (by omega) (by rw [hz2]; omega) (by simp only [maxLen]; omega) (Nat.le_refl _)
  refine ⟨_, _, _, w', hr, k _ _ ⟨?_, h.ext.grown hg⟩⟩
  obtain ⟨hl, ⟨hv, _⟩ | ⟨g, cap, cur, hv, hge, hb, h1, h2, h3, h4⟩⟩ := ho
  · cases hv
  · cases hv
    refine sat_new h.sat hg hge ?_
    rw [hb]
    simp only [Nat.mul_one] at h3 h4
    have : cur = ((List.replicate n 0).map (Value.int .u8)).toArray := by
      apply Array.toList_inj.1
      have e1 : cur.toList.take n = cur.toList := List.take_of_length_le (by simp [h3])
      rw [e1] at h4
      rw [h4]
      apply List.ext_getElem
      · simp [madeCells]
      · intro j hj1 hj2
        simp [madeCells, Value.cells, Nat.mod_one]
    rw [this]
    rfl
theorem rep_getD (n j : Nat) : (List.replicate n (0 : Int)).getD j 0 = 0 := by
  rw [List.getD_eq_getElem?_getD, List.getElem?_replicate]
  split <;> rfl
theorem c_set {w0 w : World} {F : Asrt} {R : Ending → World → Prop} {p : Pg} {i : Nat} {c : Int} (hw : p.wf) (hi : i < 4096) (h : S w0 w (pgA p * F))
    (k : ∀ p' w', p'.num = p.num → p'.blk = p.blk → p'.perm = p.perm → p'.wf → (∀ j, j < 4096 → p'.byte j = if j = i then c else p.byte j) → S w0 w' (pgA p' * F) → R (.returned (.tuple #[])) w') :
    Calls Tryz.prog 89 #[.pointer (some ⟨p.blk, 0, none⟩), .int .u64 i, .int .u8 c] w R := by
  obtain ⟨num, blk, perm, dat⟩ := p
  refine ok_vmem_bytes_set _ _ _ ?_
  have last : ∀ (d : Nat) (l : List Int) (w1 : World), l.length = 4096 → (∀ j, j < 4096 → l.getD j 0 = Pg.byte ⟨num, blk, perm, dat⟩ j) → S w0 w1 (pgA ⟨num, blk, perm, some (d, l)⟩ * F) → 
      ∃ (x20_7 : Option Addr) (x20_7l x20_7c : Nat), w1.cell? (⟨blk, 0, none⟩ : Addr) = some (.slice x20_7 x20_7l x20_7c) ∧ ixAt x20_7 i x20_7l (fun a8 => stc w1 (a8.add ((i : Int).toNat * 1)) (.int .u8 c) (fun w9 => R (.returned (.tuple #[])) w9)) := by
    intro d l w1 hl hb h1
    rw [pgA_some, mulA] at h1
    refine ⟨_, _, _, ld h1 rfl, ?_⟩
    refine ix_mk (by omega) (by omega) ?_
    refine st h1 (by simp [Nat.blt_eq]; omega) ?_
    intro w2 h2
    refine k ⟨num, blk, perm, some (d, l.set i c)⟩ w2 rfl rfl rfl (by simp [Pg.wf, hl]) ?_ ?_
    · intro j hj
      rw [← hb j hj]
      simp only [Pg.byte, List.getD_eq_getElem?_getD, List.getElem?_set]
      by_cases hji : j = i
      · subst hji; simp [hl, hj]
      · simp [hji, Ne.symm hji]
    · rw [pgA_some, mulA]
      have e : ((l.map (Value.int .u8)).toArray.setIfInBounds (0 + (i : Int).toNat * 1) (.int .u8 c)) = ((l.set i c).map (Value.int .u8)).toArray := by
        simp [List.map_set]
      rw [e] at h2
      exact h2
  cases dat with
  | none =>
    have h' := h
    rw [pgA_none] at h
    refine ⟨_, _, _, ld h rfl, ?_⟩
    by_cases hc : c = 0
    · subst hc
      refine ⟨fun _ => False, ?_, fun _ _ hf => hf.elim⟩
      exact k ⟨num, blk, perm, none⟩ w rfl rfl rfl trivial (fun j hj => by simp [Pg.byte]) h'
    · refine ⟨fun w1 => ∃ d, S w0 w1 (pgA ⟨num, blk, perm, some (d, List.replicate 4096 0)⟩ * F), ?_, ?_⟩
      · refine b_t rfl (b_f (by simpa using hc) ?_)
        refine mk8 (n := 4096) h (by omega) ?_
        intro d w1 h1
        refine st h1 (by rfl) ?_
        intro w2 h2
        refine ⟨d, ?_⟩
        rw [pgA_some, mulA]
        exact h2.eq (mulL _ _ _)
      · rintro _ w1 ⟨d, h1⟩
        refine last d _ w1 List.length_replicate ?_ h1
        intro j hj
        exact rep_getD 4096 j
  | some dl =>
    obtain ⟨d, l⟩ := dl
    have h' := h
    rw [pgA_some, mulA] at h
    refine ⟨_, _, _, ld h rfl, ?_⟩
    refine ⟨fun w1 => w1 = w, rfl, ?_⟩
    rintro _ w1 rfl
    exact last d l _ hw (fun j hj => rfl) h'

/-! ### Bytes of pages, one by one -/
def pg (x : Int) : Int := x % 18446744073709551616 / 4096
/-- What stands under a page's number, and whether it has a permission. -/
def pOk (es : List (Int × Value)) (perm : Int) (cell : Nat → Int → Prop) (x : Int) : Prop :=
  ∃ blk pm, es.lookup (pg x) = some (.pointer (some ⟨blk, 0, none⟩)) ∧ bAnd .i64 pm perm = perm ∧ cell blk pm
def pBad (es : List (Int × Value)) (perm : Int) (cell : Nat → Int → Prop) (x : Int) : Prop :=
  es.lookup (pg x) = none ∨ ∃ blk pm, es.lookup (pg x) = some (.pointer (some ⟨blk, 0, none⟩)) ∧ bAnd .i64 pm perm ≠ perm ∧ cell blk pm
theorem pOk_pg {es : List (Int × Value)} {perm : Int} {cell : Nat → Int → Prop} {x y : Int} (h : pOk es perm cell x) (e : pg y = pg x) : pOk es perm cell y := by
  unfold pOk at h ⊢; rw [e]; exact h
set_option maxRecDepth 4000 in
theorem c_each {w0 w : World} {R : Ending → World → Prop} {m r : Nat} {q : Value} {es : List (Int × Value)} {addr perm code : Int} {n : Nat} {g : FuncId} {ga gb : Array Value} {B : Nat → Asrt} {cell : Nat → Int → Prop} {ok bad : Int → Prop}
    (hb : bodyB Tryz.prog g = true) (hn : n ≤ 100000)
    (hcell : ∀ w blk pm, S w0 w (pts m (.cells #[q, .map (some r)] 111 (0, 0)) * (pts r (mapO .u64 es) * B 0)) → cell blk pm → w.cell? ⟨blk, 1, none⟩ = some (.int .i64 pm))
    (hok' : ∀ x, ok x → pOk es perm cell x) (hbad' : ∀ x, bad x → pBad es perm cell x) (hcong : ∀ x y, ok x → pg y = pg x → ok y)
    (dec : ∀ i : Nat, i < n → ok (addr + i) ∨ bad (addr + i))
    (h : S w0 w (pts m (.cells #[q, .map (some r)] 111 (0, 0)) * (pts r (mapO .u64 es) * B 0)))
    (hc : ∀ (i : Nat) (blk : Nat) (w : World) (R' : Ending → World → Prop), i < n → es.lookup (pg (addr + i)) = some (.pointer (some ⟨blk, 0, none⟩)) → S w0 w (pts m (.cells #[q, .map (some r)] 111 (0, 0)) * (pts r (mapO .u64 es) * B i)) →
      (∀ w', S w0 w' (pts m (.cells #[q, .map (some r)] 111 (0, 0)) * (pts r (mapO .u64 es) * B (i + 1))) → R' (.returned (.tuple #[])) w') →
      Calls Tryz.prog g (ga.toList ++ (([.int .u64 (i : Int), .pointer (some ⟨blk, 0, none⟩), .int .u64 ((addr + i) % 4096)] : List Value) ++ gb.toList)).toArray w R')
    (k : (∀ i : Nat, i < n → ok (addr + i)) → ∀ w', S w0 w' (pts m (.cells #[q, .map (some r)] 111 (0, 0)) * (pts r (mapO .u64 es) * B n)) → R (.returned .nilIface) w')
    (kb : ∀ i : Nat, i < n → (∀ j : Nat, j < i → ok (addr + j)) → bad (addr + i) → ∀ b w',
      S w0 w' (pts b (.cells #[.int .u64 ((addr + i) % 18446744073709551616), .iface 37 (.int .i64 code)] 92 (0, 0)) * (pts m (.cells #[q, .map (some r)] 111 (0, 0)) * (pts r (mapO .u64 es) * B 0))) → R (.returned (.iface 90 (.pointer (some ⟨b, 0, none⟩)))) w') :
    Calls Tryz.prog 76 #[.pointer (some ⟨m, 0, none⟩), .int .u64 addr, .int .u64 (n : Int), .int .i64 perm, .int .i64 code, .func (.func g) ga gb] w R := by
  refine ok_vmem_Mem_each _ _ _ _ _ _ _ _ ?_
  refine ⟨fun y w => 0 ≤ y ∧ y < n + 4096 ∧ S w0 w (pts m (.cells #[q, .map (some r)] 111 (0, 0)) * (pts r (mapO .u64 es) * B 0)) ∧ ∀ j : Nat, j < n → (j : Int) < y → ok (addr + j), fun y _ => (n + 4096 - y).toNat, ⟨by omega, by omega, h, fun j _ hj => by omega⟩, ?_⟩
  rintro _ y w1 ⟨hy0, hy1, h1, hok⟩
  refine dc (fun hyn => ?_) (fun hyn => ?_)
  · obtain ⟨i, rfl⟩ : ∃ i : Nat, y = i := ⟨y.toNat, by omega⟩
    refine ⟨_, ld h1 rfl, ?_⟩
    rw [pageNo, pageAt, ← show pg (addr + i) = (addr + i) % 18446744073709551616 / 4096 from rfl]
    have hlk := lk (r := r) h1 u109 u22 z115 (pg (addr + i))
    have hin : i < n := by omega
    rcases dec i hin with hoki | hbad
    · obtain ⟨blk, pm, e1, e2, e3⟩ := hok' _ hoki
      rw [e1] at hlk
      refine ⟨_, _, hlk, ?_⟩
      refine ⟨fun b w' => b = false ∧ w' = w1, ift rfl (nc_mk ⟨_, (hcell _ _ _ h1 e3), by simp [e2], rfl⟩), ?_⟩
      rintro _ b w2 ⟨rfl, rfl⟩
      refine b_f rfl ⟨⟨?_, ?_, h1, ?_⟩, ?_⟩
      · simp only [w64]; omega
      · simp only [w64]; omega
      · intro j hjn hj
        by_cases hji : j < i
        · exact hok j hjn (by omega)
        · refine hcong _ _ hoki ?_
          simp only [w64] at hj
          unfold pg
          omega
      · simp only [w64]; omega
    · have key : ∃ x34 : Option Addr, (Instr.lookup 109 (.map (some r)) (.int .u64 (pg (addr + i))) false).run Tryz.prog w1 = .ok (.pointer x34) w1 ∧
          (x34 = none ∨ ∃ blk pm, x34 = some ⟨blk, 0, none⟩ ∧ bAnd .i64 pm perm ≠ perm ∧ cell blk pm) := by
        rcases hbad' _ hbad with e1 | ⟨blk, pm, e1, e2, e3⟩
        · rw [e1] at hlk; exact ⟨_, hlk, .inl rfl⟩
        · rw [e1] at hlk; exact ⟨_, hlk, .inr ⟨blk, pm, rfl, e2, e3⟩⟩
      obtain ⟨x34, hl, hx⟩ := key
      refine ⟨x34, w1, hl, ?_⟩
      refine ⟨fun b w' => b = true ∧ w' = w1, ?_, ?_⟩
      · rcases hx with rfl | ⟨blk, pm, rfl, e2, e3⟩
        · exact iff_ (by simp) ⟨rfl, rfl⟩
        · exact ift rfl (nc_mk ⟨_, hcell _ _ _ h1 e3, by simp [e2], rfl⟩)
      rintro _ b w2 ⟨rfl, rfl⟩
      refine b_t rfl (al h1 ?_)
      intro b w3 h3
      rw [w64] at h3
      exact kb i hin (fun j hj => hok j (by omega) (by omega)) hbad b w3 h3
  · have hall : ∀ i : Nat, i < n → ok (addr + i) := fun i hi => hok i hi (by omega)
    refine ⟨fun y w => ∃ i : Nat, y = i ∧ i ≤ n ∧ S w0 w (pts m (.cells #[q, .map (some r)] 111 (0, 0)) * (pts r (mapO .u64 es) * B i)), fun y _ => (n - y).toNat, ⟨0, rfl, by omega, h1⟩, ?_⟩
    rintro _ y w2 ⟨i, rfl, hi, h2⟩
    refine dc (fun hyn => ?_) (fun hyn => ?_)
    · have hin : i < n := by omega
      refine ⟨_, ld h2 rfl, ?_⟩
      rw [pageNo, pageAt, ← show pg (addr + i) = (addr + i) % 18446744073709551616 / 4096 from rfl]
      have hlk := lk (r := r) h2 u109 u22 z115 (pg (addr + i))
      obtain ⟨blk, pm, e1, e2, e3⟩ := hok' _ (hall i hin)
      rw [e1] at hlk
      refine ⟨_, _, hlk, ?_⟩
      rw [if_pos hb]
      refine hc i blk w2 _ hin e1 h2 ?_
      intro w3 h3
      refine ⟨rfl, ⟨i + 1, ?_, by omega, h3⟩, ?_⟩
      · rw [w64]; omega
      · simp only [w64]; omega
    · obtain rfl : i = n := by omega
      exact k hall w2 h2

/-! ### Memories -/
def u8s (l : List Int) : List Value := l.map (Value.int .u8)
theorem u8s_snoc (l : List Int) (x : Int) : u8s (l ++ [x]) = u8s l ++ [.int .u8 x] := by simp [u8s]
theorem u8s_length (l : List Int) : (u8s l).length = l.length := by simp [u8s]
/-- A variable that holds a slice of its own. -/
def outA (b : Nat) (l : List Int) : Asrt := ex fun z : Option Addr × Nat × Nat => pts b (.cells #[.slice z.1 z.2.1 z.2.2] 39 (0, 0)) * slA 5 (u8s l) z.1 z.2.1 z.2.2
theorem outA_open {w0 w : World} {b : Nat} {l : List Int} {F : Asrt} (h : S w0 w (outA b l * F)) : ∃ a n c, S w0 w (pts b (.cells #[.slice a n c] 39 (0, 0)) * (slA 5 (u8s l) a n c * F)) := by
  obtain ⟨z, h⟩ := S.exm.1 h
  exact ⟨z.1, z.2.1, z.2.2, by rw [mulA] at h; exact h⟩
theorem outA_shut {w0 w : World} {b : Nat} {l : List Int} {F : Asrt} {a : Option Addr} {n c : Nat} (h : S w0 w (pts b (.cells #[.slice a n c] 39 (0, 0)) * (slA 5 (u8s l) a n c * F))) : S w0 w (outA b l * F) :=
  S.exm.2 ⟨(a, n, c), by rw [mulA]; exact h⟩
theorem c_get1 {w0 w : World} {F : Asrt} {R : Ending → World → Prop} {p : Pg} {i : Nat} {x : Int} {b : Nat} {l : List Int} (hw : p.wf) (hi : i < 4096) (hl : l.length ≤ 1000000) (h : S w0 w (pgA p * (outA b l * F)))
    (k : ∀ w', S w0 w' (pgA p * (outA b (l ++ [p.byte i]) * F)) → R (.returned (.tuple #[])) w') :
    Calls Tryz.prog 77 #[.int .u64 x, .pointer (some ⟨p.blk, 0, none⟩), .int .u64 i, .pointer (some ⟨b, 0, none⟩)] w R := by
  refine ok_vmem_Mem_get_1 _ _ _ _ ?_
  rw [mulL] at h
  obtain ⟨a, n, c, h⟩ := outA_open h
  refine dr h fun w1 h1 => ?_
  refine ⟨_, _, _, ld h1 rfl, ?_⟩
  refine c_at hw hi (h1.eq (show _ = pgA p * (pts b (.cells #[.slice a n c] 39 (0, 0)) * (slA 5 (u8s l) a n c * F)) by ac_rfl)) ?_
  refine ⟨_, rfl, _, _, _, ld h1 rfl, rfl, ?_⟩
  refine al h1 fun b2 w2 h2 => ?_
  refine ⟨_, _, _, ld h2 rfl, rfl, ?_⟩
  refine app8 h2 (ld h2 rfl) (by rw [u8s_length]; omega) ?_
  intro a' n' c' w3 h3 hn
  refine st h3 (by rfl) fun w4 h4 => ?_
  refine k w4 ?_
  rw [mulL]
  refine outA_shut (a := a') (n := n') (c := c') ?_
  rw [u8s_snoc]
  exact (h4.drop).eq (by ac_rfl)
/-- What holds gives the bytes of a slice, wherever they lie. -/
def Gives (F : Asrt) (a : Option Addr) (l : List Int) : Prop := ∀ w, sat w F → ∀ j, j < l.length → ∃ ad, a = some ad ∧ w.cell? (ad.add j) = some (.int .u8 (l.getD j 0))
theorem Gives.frame {F : Asrt} {a : Option Addr} {l : List Int} (h : Gives F a l) (X : Asrt) : Gives (X * F) a l := fun w hs => h w (sat_drop hs)
theorem Gives.left {F : Asrt} {a : Option Addr} {l : List Int} (h : Gives F a l) (X : Asrt) : Gives (F * X) a l := fun w hs => h w (sat_left hs)
theorem Gives.nil (F : Asrt) (a : Option Addr) : Gives F a [] := fun _ _ j hj => by simp at hj
theorem Gives.take {F : Asrt} {a : Option Addr} {l : List Int} (h : Gives F a l) (n : Nat) : Gives F a (l.take n) := fun w hs j hj => by
  rw [List.length_take] at hj
  obtain ⟨ad, ha, hc⟩ := h w hs j (by omega)
  exact ⟨ad, ha, by rw [hc]; simp [List.getD_eq_getElem?_getD, show j < n by omega]⟩
theorem Gives.sl {G : Asrt} {a : Option Addr} {n c : Nat} {l : List Int} : Gives (slA 5 (u8s l) a n c * G) a l := fun w hs j hj => by
  rcases slA_cases hs with ⟨_, _, _, h, _⟩ | ⟨g, rest, rfl, _, _, _, h2⟩
  · have : l = [] := by simpa [u8s] using h
    subst this
    simp at hj
  · refine ⟨_, rfl, ?_⟩
    rw [Addr.add_lit, cellS h2]
    simp [u8s, List.getElem?_append_left, hj, List.getD_eq_getElem?_getD]
theorem Gives.at {G : Asrt} {b so : Nat} {l : List Int} {obj : Array Value} {t : TypeId} {φ : Nat × Nat} (h : ∀ j, j < l.length → obj[so + j]? = some (.int .u8 (l.getD j 0))) : Gives (pts b (.cells obj t φ) * G) (some ⟨b, so, none⟩) l := fun w hs j hj => by
  refine ⟨_, rfl, ?_⟩
  rw [Addr.add_lit, cellS hs]
  exact h j hj
theorem c_put1 {w0 w : World} {F : Asrt} {R : Ending → World → Prop} {p : Pg} {i j : Nat} {b : Nat} {l : List Int} {a : Option Addr} {c : Nat} (hw : p.wf) (hi : i < 4096) (hj : j < l.length) (hg : Gives F a l)
    (h : S w0 w (pgA p * (pts b (.cells #[.slice a l.length c] 39 (0, 0)) * F)))
    (k : ∀ p' w', p'.num = p.num → p'.blk = p.blk → p'.perm = p.perm → p'.wf → (∀ m, m < 4096 → p'.byte m = if m = i then l.getD j 0 else p.byte m) →
      S w0 w' (pgA p' * (pts b (.cells #[.slice a l.length c] 39 (0, 0)) * F)) → R (.returned (.tuple #[])) w') :
    Calls Tryz.prog 88 #[.int .u64 (j : Int), .pointer (some ⟨p.blk, 0, none⟩), .int .u64 i, .pointer (some ⟨b, 0, none⟩)] w R := by
  refine ok_vmem_Mem_put_1 _ _ _ _ ?_
  refine dr h fun w1 h1 => ?_
  refine ⟨_, _, _, ld h1 rfl, ?_⟩
  obtain ⟨ad, rfl, hc⟩ := hg w1 (sat_drop (sat_drop h1.sat)) j hj
  refine ix_mk (by omega) (by omega) ?_
  refine ⟨_, by rw [Int.toNat_natCast, Nat.mul_one]; exact hc, ?_⟩
  refine c_set hw hi h1 ?_
  intro p' w' e1 e2 e3 e4 e5 h'
  exact ⟨rfl, k p' w' e1 e2 e3 e4 e5 h'⟩

def pgsA : List Pg → Asrt
  | [] => emp
  | p :: ps => pgA p * pgsA ps
def pgFind : List Pg → Int → Option Pg
  | [], _ => none
  | p :: ps, n => if p.num = n then some p else pgFind ps n
def pgSet : List Pg → Int → Pg → List Pg
  | [], _, _ => []
  | p :: ps, n, p' => if p.num = n then p' :: ps else p :: pgSet ps n p'
def memEs (ps : List Pg) : List (Int × Value) := ps.map fun p => (p.num, .pointer (some ⟨p.blk, 0, none⟩))
def memA (m r : Nat) (q : Int) (ps : List Pg) : Asrt := pts m (.cells #[.int .i64 q, .map (some r)] 111 (0, 0)) * (pts r (mapO .u64 (memEs ps)) * pgsA ps)
def mByte (ps : List Pg) (x : Int) : Int := match pgFind ps (pg x) with | some p => p.byte (x % 4096).toNat | none => 0
def mOk (ps : List Pg) (perm : Int) (x : Int) : Prop := ∃ p, pgFind ps (pg x) = some p ∧ bAnd .i64 p.perm perm = perm
def wfs (ps : List Pg) : Prop := ∀ p ∈ ps, p.wf
theorem pgFind_mem {n : Int} {p : Pg} : ∀ {ps : List Pg}, pgFind ps n = some p → p ∈ ps ∧ p.num = n
  | [], h => by cases h
  | q :: ps, h => by
    unfold pgFind at h
    split at h
    · cases h; exact ⟨.head _, by assumption⟩
    · exact ⟨.tail _ (pgFind_mem h).1, (pgFind_mem h).2⟩
theorem memEs_lookup (n : Int) : ∀ ps : List Pg, (memEs ps).lookup n = (pgFind ps n).map fun p => .pointer (some ⟨p.blk, 0, none⟩)
  | [] => rfl
  | q :: ps => by
    have ih := memEs_lookup n ps
    unfold memEs at ih ⊢
    rw [List.map_cons, List.lookup_cons, ih]
    by_cases h : q.num = n
    · simp [h, pgFind]
    · have : (n == q.num) = false := by simp [Ne.symm h]
      simp [h, this, pgFind]
theorem pgs_mem {p : Pg} : ∀ {ps : List Pg}, p ∈ ps → ∃ G, pgsA ps = pgA p * G
  | q :: ps, h => by
    cases h with
    | head => exact ⟨_, rfl⟩
    | tail _ h =>
      obtain ⟨G, hG⟩ := pgs_mem h
      exact ⟨pgA q * G, by rw [pgsA, hG, mulL]⟩
theorem pgs_focus {n : Int} {p : Pg} : ∀ {ps : List Pg}, pgFind ps n = some p → ∃ G, pgsA ps = pgA p * G ∧ ∀ p', pgsA (pgSet ps n p') = pgA p' * G
  | [], h => by cases h
  | q :: ps, h => by
    unfold pgFind at h
    unfold pgSet
    split at h
    · cases h
      rename_i hn
      exact ⟨pgsA ps, rfl, fun p' => by rw [if_pos hn]; rfl⟩
    · rename_i hn
      obtain ⟨G, hG, hs⟩ := pgs_focus h
      exact ⟨pgA q * G, by rw [pgsA, hG, mulL], fun p' => by rw [if_neg hn, pgsA, hs, mulL]⟩
theorem memEs_set {n : Int} {p p' : Pg} (hn : p'.num = n) (hb : p'.blk = p.blk) : ∀ {ps : List Pg}, pgFind ps n = some p → memEs (pgSet ps n p') = memEs ps
  | [], _ => rfl
  | q :: ps, h => by
    unfold pgFind at h
    unfold pgSet
    split at h
    · cases h
      rename_i hq
      rw [if_pos hq]
      simp [memEs, hn, hb, hq]
    · rename_i hq
      rw [if_neg hq]
      have := memEs_set hn hb h
      unfold memEs at this ⊢
      rw [List.map_cons, List.map_cons, this]
theorem pgFind_set {n k : Int} {p p' : Pg} (hn : p'.num = n) : ∀ {ps : List Pg}, pgFind ps n = some p → pgFind (pgSet ps n p') k = if k = n then some p' else pgFind ps k
  | [], h => by cases h
  | q :: ps, h => by
    unfold pgFind at h
    unfold pgSet
    split at h
    · cases h
      rename_i hq
      rw [if_pos hq]
      unfold pgFind
      by_cases hk : k = n
      · subst hk; simp [hn]
      · simp [hn, hq, hk, Ne.symm hk]
    · rename_i hq
      rw [if_neg hq]
      have ih := pgFind_set (k := k) hn h
      unfold pgFind
      rw [ih]
      by_cases hk : k = n
      · subst hk; simp [hq]
      · simp [hk]
theorem wfs_set {n : Int} {p' : Pg} (hp : p'.wf) : ∀ {ps : List Pg}, wfs ps → wfs (pgSet ps n p')
  | [], _ => by intro q hq; cases hq
  | q :: ps, h => by
    have h1 : q.wf := h q (.head _)
    have h2 : wfs ps := fun z hz => h z (.tail _ hz)
    unfold pgSet
    split
    · intro z hz; cases hz with | head => exact hp | tail _ hz => exact h2 z hz
    · intro z hz; cases hz with | head => exact h1 | tail _ hz => exact wfs_set hp h2 z hz
theorem slA_len {w0 w : World} {e : TypeId} {l : List Value} {a : Option Addr} {n c : Nat} {F : Asrt} (h : S w0 w (slA e l a n c * F)) : n = l.length := by
  rcases slA_cases h.sat with ⟨_, rfl, _, rfl, _⟩ | ⟨_, _, _, h, _⟩
  · rfl
  · exact h
theorem tz39 : (tyZero Tryz.prog 39).cells = #[.slice none 0 0] := by kernel_rfl
def mBytes (ps : List Pg) (addr : Int) (n : Nat) : List Int := (List.range n).map fun (i : Nat) => mByte ps (addr + (i : Int))
theorem mBytes_succ (ps : List Pg) (addr : Int) (n : Nat) : mBytes ps addr (n + 1) = mBytes ps addr n ++ [mByte ps (addr + n)] := by simp [mBytes, List.range_succ]
theorem mBytes_length (ps : List Pg) (addr : Int) (n : Nat) : (mBytes ps addr n).length = n := by simp [mBytes]
theorem pOk_of {ps : List Pg} {perm x : Int} (h : mOk ps perm x) : pOk (memEs ps) perm (fun blk pm => ∃ p ∈ ps, p.blk = blk ∧ p.perm = pm) x := by
  obtain ⟨p, hf, hp⟩ := h
  exact ⟨p.blk, p.perm, by rw [memEs_lookup, hf]; rfl, hp, p, (pgFind_mem hf).1, rfl, rfl⟩
theorem pBad_of {ps : List Pg} {perm x : Int} (h : ¬ mOk ps perm x) : pBad (memEs ps) perm (fun blk pm => ∃ p ∈ ps, p.blk = blk ∧ p.perm = pm) x := by
  cases hf : pgFind ps (pg x) with
  | none => exact .inl (by rw [memEs_lookup, hf]; rfl)
  | some p =>
    refine .inr ⟨p.blk, p.perm, by rw [memEs_lookup, hf]; rfl, fun hp => h ⟨p, hf, hp⟩, p, (pgFind_mem hf).1, rfl, rfl⟩

theorem mem_at {w0 w : World} {m r : Nat} {q : Value} {ps : List Pg} {X F : Asrt} (h : S w0 w (pts m (.cells #[q, .map (some r)] 111 (0, 0)) * (pts r (mapO .u64 (memEs ps)) * (pgsA ps * F)))) {blk : Nat} {pm : Int}
    (hp : ∃ p ∈ ps, p.blk = blk ∧ p.perm = pm) : w.cell? ⟨blk, 1, none⟩ = some (.int .i64 pm) := by
  obtain ⟨p, hm, rfl, rfl⟩ := hp
  obtain ⟨G, hG⟩ := pgs_mem hm
  rw [hG] at h
  have h2 : S w0 w (pts p.blk p.obj * (p.dA * (G * (F * (pts m (.cells #[q, .map (some r)] 111 (0, 0)) * pts r (mapO .u64 (memEs ps))))))) := h.eq (by unfold pgA; ac_rfl)
  exact ld h2 rfl
/-- Bytes of pages with a permission. -/
theorem c_get {w0 w : World} {R : Ending → World → Prop} {m r : Nat} {q : Int} {ps : List Pg} {addr perm code : Int} {n : Nat} {F : Asrt} (hw : wfs ps) (hn : n ≤ 100000)
    (h : S w0 w (memA m r q ps * F))
    (k : (∀ i : Nat, i < n → mOk ps perm (addr + i)) → ∀ a c w', S w0 w' (memA m r q ps * (slA 5 (u8s (mBytes ps addr n)) a n c * F)) → R (.returned (.tuple #[.slice a n c, .nilIface])) w')
    (kb : ∀ i : Nat, i < n → (∀ j : Nat, j < i → mOk ps perm (addr + j)) → ¬ mOk ps perm (addr + i) → ∀ b a c w', S w0 w' (pts b (.cells #[.int .u64 ((addr + i) % 18446744073709551616), .iface 37 (.int .i64 code)] 92 (0, 0)) * (memA m r q ps * (slA 5 [] a 0 c * F))) →
      R (.returned (.tuple #[.slice a 0 c, .iface 90 (.pointer (some ⟨b, 0, none⟩))])) w') :
    Calls Tryz.prog 43 #[.pointer (some ⟨m, 0, none⟩), .int .u64 addr, .int .u64 (n : Int), .int .i64 perm, .int .i64 code] w R := by
  refine ok_vmem_Mem_get _ _ _ _ _ ?_
  refine al h fun b1 w1 h1 => ?_
  have h1 : S w0 w1 (pts m (.cells #[.int .i64 q, .map (some r)] 111 (0, 0)) * (pts r (mapO .u64 (memEs ps)) * (pgsA ps * (outA b1 [] * F)))) := by
    have h2 : S w0 w1 (outA b1 [] * (memA m r q ps * F)) := outA_shut (a := none) (n := 0) (c := 0) (by rw [u8s, List.map_nil, slA_nil, emp_mul]; exact h1)
    exact h2.eq (by unfold memA; ac_rfl)
  refine c_each (B := fun i => pgsA ps * (outA b1 (mBytes ps addr i) * F)) (cell := fun blk pm => ∃ p ∈ ps, p.blk = blk ∧ p.perm = pm) (by kernel_rfl) hn (fun w blk pm hs hp => mem_at (X := emp) hs hp)
    (ok := mOk ps perm) (bad := fun x => ¬ mOk ps perm x) (fun _ => pOk_of) (fun _ => pBad_of) (fun x y hx e => by unfold mOk at hx ⊢; rw [e]; exact hx)
    (fun i hi => Classical.em _) h1 ?_ ?_ ?_
  · intro i blk w2 R' hi hlk h2 k2
    rw [memEs_lookup] at hlk
    obtain ⟨p, hf, hp⟩ := Option.map_eq_some_iff.1 hlk
    cases hp
    obtain ⟨G, hG⟩ := pgs_mem (pgFind_mem hf).1
    have h3 : S w0 w2 (pgA p * (outA b1 (mBytes ps addr i) * (pts m (.cells #[.int .i64 q, .map (some r)] 111 (0, 0)) * (pts r (mapO .u64 (memEs ps)) * (G * F))))) := h2.eq (by rw [hG]; ac_rfl)
    have e1 : ((addr + i) % 4096) = (((addr + i) % 4096).toNat : Int) := by omega
    rw [e1]
    refine c_get1 (p := p) (i := ((addr + i) % 4096).toNat) (hw p (pgFind_mem hf).1) (by omega) (by rw [mBytes_length]; omega) h3 ?_
    intro w3 h4
    refine k2 w3 ?_
    have e2 : p.byte ((addr + i) % 4096).toNat = mByte ps (addr + i) := by unfold mByte; rw [hf]
    rw [e2, ← mBytes_succ] at h4
    exact h4.eq (by simp only [hG]; ac_rfl)
  · intro hall w2 h2
    have h3 : S w0 w2 (outA b1 (mBytes ps addr n) * (memA m r q ps * F)) := h2.eq (by unfold memA; ac_rfl)
    obtain ⟨a, n', c, h4⟩ := outA_open h3
    refine ⟨_, rfl, _, _, _, ld h4 rfl, ?_⟩
    obtain rfl : n' = n := by have := slA_len h4.drop; rw [u8s_length, mBytes_length] at this; exact this
    exact k hall a c w2 (h4.drop.eq (by ac_rfl))
  · intro i hi hall hbad b w2 h2
    have h3 : S w0 w2 (outA b1 [] * (pts b (.cells #[.int .u64 ((addr + i) % 18446744073709551616), .iface 37 (.int .i64 code)] 92 (0, 0)) * (memA m r q ps * F))) := h2.eq (by unfold memA; ac_rfl)
    obtain ⟨a, n', c, h4⟩ := outA_open h3
    refine ⟨_, rfl, _, _, _, ld h4 rfl, ?_⟩
    obtain rfl : n' = 0 := slA_len h4.drop
    exact kb i hi hall hbad b a c w2 (h4.drop.eq (by show slA 5 [] a 0 c * _ = _; ac_rfl))

/-- Memory in which some bytes were written. -/
structure Put (ps ps' : List Pg) (addr : Int) (l : List Int) : Prop where
  es : memEs ps' = memEs ps
  wf : wfs ps'
  perm : ∀ k, (pgFind ps' k).map (·.perm) = (pgFind ps k).map (·.perm)
  byte : ∀ y, 0 ≤ y → y < 18446744073709551616 → mByte ps' y = if (y - addr) % 18446744073709551616 < l.length then l.getD ((y - addr) % 18446744073709551616).toNat 0 else mByte ps y
theorem Put.nil {ps : List Pg} {addr : Int} (hw : wfs ps) : Put ps ps addr [] := ⟨rfl, hw, fun _ => rfl, fun y h0 h1 => by
  rw [if_neg]; simp only [List.length_nil]; omega⟩
theorem take_getD (l : List Int) (i j : Nat) (h : j < i) : (l.take i).getD j 0 = l.getD j 0 := by
  simp [List.getD_eq_getElem?_getD, h]
theorem Put.step {ps ps' : List Pg} {addr : Int} {l : List Int} {i : Nat} {p p' : Pg} (h : Put ps ps' addr (l.take i)) (hi : i < l.length) (hl : l.length ≤ 100000) (hf : pgFind ps' (pg (addr + i)) = some p)
    (e1 : p'.num = p.num) (e2 : p'.blk = p.blk) (e3 : p'.perm = p.perm) (e4 : p'.wf) (e5 : ∀ m, m < 4096 → p'.byte m = if m = ((addr + i) % 4096).toNat then l.getD i 0 else p.byte m) :
    Put ps (pgSet ps' (pg (addr + i)) p') addr (l.take (i + 1)) := by
  have hn : p'.num = pg (addr + i) := e1.trans (pgFind_mem hf).2
  refine ⟨(memEs_set hn e2 hf).trans h.es, wfs_set e4 h.wf, fun k => ?_, fun y h0 h1 => ?_⟩
  · rw [← h.perm k, pgFind_set hn hf]
    split
    · rename_i hk; rw [hk, hf]; simp [e3]
    · rfl
  · have hlt : (l.take (i + 1)).length = i + 1 := by simp; omega
    have hlt' : (l.take i).length = i := by simp; omega
    have hb := h.byte y h0 h1
    rw [hlt'] at hb
    rw [hlt]
    unfold mByte at hb ⊢
    rw [pgFind_set hn hf]
    by_cases hp : pg y = pg (addr + i)
    · rw [if_pos hp]
      rw [hp, hf] at hb
      simp only at hb ⊢
      rw [e5 _ (by omega)]
      by_cases hy : (y - addr) % 18446744073709551616 = i
      · rw [if_pos (by unfold pg at hp; omega), if_pos (by omega), hy, take_getD _ _ _ (by omega)]
        simp
      · rw [if_neg (by unfold pg at hp; omega), hb]
        by_cases hlt2 : (y - addr) % 18446744073709551616 < i
        · rw [if_pos hlt2, if_pos (by omega), take_getD _ _ _ (by omega), take_getD _ _ _ (by omega)]
        · rw [if_neg hlt2, if_neg (by omega), hp]
    · rw [if_neg hp, hb]
      have hy : (y - addr) % 18446744073709551616 ≠ i := fun e => hp (by unfold pg; omega)
      by_cases hlt2 : (y - addr) % 18446744073709551616 < i
      · rw [if_pos hlt2, if_pos (by omega), take_getD _ _ _ (by omega), take_getD _ _ _ (by omega)]
      · rw [if_neg hlt2, if_neg (by omega)]
theorem c_put {w0 w : World} {R : Ending → World → Prop} {m r : Nat} {q : Int} {ps : List Pg} {addr perm code : Int} {F : Asrt} {l : List Int} {a : Option Addr} {c : Nat}
    (hw : wfs ps) (hn : l.length ≤ 100000) (hg : Gives F a l)
    (h : S w0 w (memA m r q ps * F))
    (k : (∀ i : Nat, i < l.length → mOk ps perm (addr + i)) → ∀ ps' w', Put ps ps' addr l → S w0 w' (memA m r q ps' * F) → R (.returned .nilIface) w')
    (kb : ∀ i : Nat, i < l.length → (∀ j : Nat, j < i → mOk ps perm (addr + j)) → ¬ mOk ps perm (addr + i) → ∀ b w', S w0 w' (pts b (.cells #[.int .u64 ((addr + i) % 18446744073709551616), .iface 37 (.int .i64 code)] 92 (0, 0)) * (memA m r q ps * F)) →
      R (.returned (.iface 90 (.pointer (some ⟨b, 0, none⟩)))) w') :
    Calls Tryz.prog 53 #[.pointer (some ⟨m, 0, none⟩), .int .u64 addr, .slice a l.length c, .int .i64 perm, .int .i64 code] w R := by
  refine ok_vmem_Mem_put _ _ _ _ _ _ _ ?_
  refine al h fun b1 w1 h1 => ?_
  refine ⟨_, _, _, ld h1 rfl, ?_⟩
  rw [w64_of (by omega) (by omega)]
  let V := pts b1 (.cells #[.slice a l.length c] 39 (0, 0))
  let X := F
  let B : Nat → Asrt := fun i => match i with
    | 0 => pgsA ps * (V * X)
    | i + 1 => ex fun ps' => pur (Put ps ps' addr (l.take (i + 1))) * (pgsA ps' * (V * X))
  have h1 : S w0 w1 (pts m (.cells #[.int .i64 q, .map (some r)] 111 (0, 0)) * (pts r (mapO .u64 (memEs ps)) * (pgsA ps * (V * X)))) := h1.eq (by simp only [memA, V, X]; ac_rfl)
  have opn : ∀ (i : Nat) (w2 : World), S w0 w2 (pts m (.cells #[.int .i64 q, .map (some r)] 111 (0, 0)) * (pts r (mapO .u64 (memEs ps)) * B i)) →
      ∃ ps', Put ps ps' addr (l.take i) ∧ S w0 w2 (pts m (.cells #[.int .i64 q, .map (some r)] 111 (0, 0)) * (pts r (mapO .u64 (memEs ps')) * (pgsA ps' * (V * F)))) := by
    intro i w2 h2
    cases i with
    | zero => exact ⟨ps, Put.nil hw, h2⟩
    | succ i =>
      have h3 : S w0 w2 ((ex fun ps' => pur (Put ps ps' addr (l.take (i + 1))) * (pgsA ps' * (V * X))) * (pts m (.cells #[.int .i64 q, .map (some r)] 111 (0, 0)) * pts r (mapO .u64 (memEs ps)))) := h2.eq ((mulA _ _ _).symm.trans (mulC _ _))
      obtain ⟨ps', h4⟩ := S.exm.1 h3
      rw [mulA] at h4
      have h5 := S.pur.1 h4
      exact ⟨ps', h5.1, h5.2.eq (by rw [h5.1.es]; simp only [V, X]; ac_rfl)⟩
  refine c_each (B := B) (cell := fun blk pm => ∃ p ∈ ps, p.blk = blk ∧ p.perm = pm) (by kernel_rfl) hn (fun w blk pm hs hp => mem_at (X := emp) hs hp)
    (ok := mOk ps perm) (bad := fun x => ¬ mOk ps perm x) (fun _ => pOk_of) (fun _ => pBad_of) (fun x y hx e => by unfold mOk at hx ⊢; rw [e]; exact hx)
    (fun i hi => Classical.em _) h1 ?_ ?_ ?_
  · intro i blk w2 R' hi hlk h2 k2
    obtain ⟨ps', hP, h3⟩ := opn i w2 h2
    rw [← hP.es, memEs_lookup] at hlk
    obtain ⟨p, hf, hp⟩ := Option.map_eq_some_iff.1 hlk
    cases hp
    obtain ⟨G, hG, hset⟩ := pgs_focus hf
    have h4 : S w0 w2 (pgA p * (V * (pts m (.cells #[.int .i64 q, .map (some r)] 111 (0, 0)) * (pts r (mapO .u64 (memEs ps')) * (G * F))))) := h3.eq (by rw [hG]; simp only [V, X]; ac_rfl)
    have e1 : ((addr + i) % 4096) = (((addr + i) % 4096).toNat : Int) := by omega
    rw [e1]
    refine c_put1 (p := p) (i := ((addr + i) % 4096).toNat) (hP.wf p (pgFind_mem hf).1) (by omega) hi (((hg.frame G).frame _).frame _) h4 ?_
    intro p' w3 e1 e2 e3 e4 e5 h5
    refine k2 w3 ?_
    have hP' := hP.step hi hn hf e1 e2 e3 e4 e5
    have h6 : S w0 w3 (pur (Put ps (pgSet ps' (pg (addr + i)) p') addr (l.take (i + 1))) * (pgsA (pgSet ps' (pg (addr + i)) p') * (V * (pts m (.cells #[.int .i64 q, .map (some r)] 111 (0, 0)) * (pts r (mapO .u64 (memEs ps)) * F))))) :=
      S.pur.2 ⟨hP', h5.eq (by rw [hset, hP.es]; simp only [V, X]; ac_rfl)⟩
    have h7 : S w0 w3 ((ex fun ps' => pur (Put ps ps' addr (l.take (i + 1))) * (pgsA ps' * (V * X))) * (pts m (.cells #[.int .i64 q, .map (some r)] 111 (0, 0)) * pts r (mapO .u64 (memEs ps)))) :=
      S.exm.2 ⟨_, h6.eq (by simp only [V, X]; ac_rfl)⟩
    exact h7.eq ((mulC _ _).trans (mulA _ _ _))
  · intro hall w2 h2
    obtain ⟨ps', hP, h3⟩ := opn _ w2 h2
    rw [List.take_length] at hP
    refine ⟨_, rfl, k hall ps' w2 hP ?_⟩
    have h4 : S w0 w2 (V * (memA m r q ps' * F)) := h3.eq (by simp only [memA, V, X]; ac_rfl)
    exact h4.drop
  · intro i hi hall hbad b w2 h2
    have h3 : S w0 w2 (V * (pts b (.cells #[.int .u64 ((addr + i) % 18446744073709551616), .iface 37 (.int .i64 code)] 92 (0, 0)) * (memA m r q ps * X))) := h2.eq (by show _ * (_ * (_ * (pgsA ps * (V * X)))) = _; simp only [memA, V, X]; ac_rfl)
    exact ⟨_, rfl, kb i hi hall hbad b w2 h3.drop⟩

theorem c_New {w0 w : World} {R : Ending → World → Prop} {q : Int} {F : Asrt} (h0 : 0 ≤ q) (h1 : q ≤ 65536) (h : S w0 w F)
    (k : ∀ m r w', S w0 w' (memA m r q [] * F) → R (.returned (.tuple #[.pointer (some ⟨m, 0, none⟩), .nilIface])) w') : Calls Tryz.prog 31 #[.int .i64 q] w R := by
  refine ok_vmem_New _ ?_
  refine ⟨fun b w' => b = false ∧ w' = w, ?_, ?_⟩
  · rw [if_pos (by simp; omega)]
    exact ⟨by simp; omega, rfl⟩
  · rintro _ b w1 ⟨rfl, rfl⟩
    refine b_f rfl (al h fun r w2 h2 => al h2 fun m w3 h3 => k m r w3 ?_)
    unfold memA pgsA
    rw [mul_emp, mulA]
    exact h3
theorem c_In {w : World} {R : Ending → World → Prop} {s o n : Int} (k : R (.returned (.bool (decide (o ≤ s) && decide (n ≤ IntKind.u64.wrap (s - o))))) w) : Calls Tryz.prog 85 #[.int .u64 s, .int .u64 o, .int .u64 n] w R := by
  refine ok_span_In _ _ _ ?_
  refine ⟨fun b w' => b = (decide (o ≤ s) && decide (n ≤ IntKind.u64.wrap (s - o))) ∧ w' = w, ?_, ?_⟩
  · refine dc (fun h => ⟨by simp [h], rfl⟩) (fun h => ⟨by simp [h], rfl⟩)
  · rintro _ b w1 ⟨rfl, rfl⟩
    exact k
/-- Pages that may be spoken of. -/
theorem c_asked {w : World} {R : Ending → World → Prop} {addr pages perm : Int} (h1 : 1 ≤ pages) (h2 : pages ≤ 34359738368) (h3 : 0 ≤ perm) (h4 : perm ≤ 7) (h5 : addr % 4096 = 0) (h6 : 4096 ≤ addr) (h7 : addr + pages * 4096 ≤ 140737488355328)
    (k : R (.returned (.tuple #[.int .u64 (addr / 4096), .int .u64 (addr / 4096 + pages), .nilIface])) w) : Calls Tryz.prog 50 #[.int .u64 addr, .int .i64 pages, .int .i64 perm] w R := by
  have e1 : IntKind.u64.wrap (addr.tdiv 4096) = addr / 4096 := by rw [tdiv_pos (by omega), w64]; omega
  have e2 : IntKind.u64.wrap pages = pages := w64_of (by omega) (by omega)
  refine ok_vmem_asked _ _ _ ?_
  rw [e1, e2, w64_of (x := addr / 4096 + pages) (by omega) (by omega)]
  refine ⟨fun b w' => b = false ∧ w' = w, ?_, ?_⟩
  · rw [if_pos (by simp; omega), if_pos (by simp; omega)]
    exact ⟨by simp; omega, rfl⟩
  · rintro _ b w1 ⟨rfl, rfl⟩
    refine b_f rfl ?_
    rw [tmod_pos (by omega)]
    refine b_f (by simp; omega) ?_
    refine ⟨fun b w' => b = false ∧ w' = w1, ?_, ?_⟩
    · rw [if_pos (by simp; omega)]
      refine c_In ⟨_, rfl, ?_, rfl⟩
      rw [w64_of (by omega) (by omega)]
      simp
      omega
    · rintro _ b w2 ⟨rfl, rfl⟩
      exact b_f rfl k
theorem slA_rd {w0 w : World} {e : TypeId} {l : List Value} {a : Option Addr} {n c : Nat} {F : Asrt} (h : S w0 w (slA e l a n c * F)) {i : Nat} (hi : i < l.length) : ∃ ad, a = some ad ∧ w.cell? (ad.add i) = l[i]? := by
  rcases slA_cases h.sat with ⟨_, _, _, rfl, _⟩ | ⟨g, rest, rfl, _, _, _, h2⟩
  · simp at hi
  · refine ⟨_, rfl, ?_⟩
    rw [Addr.add_lit, cellS h2]
    simp [List.getElem?_append_left hi]
theorem c_isNaN {w : World} {R : Ending → World → Prop} {x : Int} (k : R (.returned (.bool false)) w) : Calls Tryz.prog 122 #[.int .u64 x] w R := by
  refine ok_cmp_isNaN _ ?_
  simpa using k
theorem c_Less {w : World} {R : Ending → World → Prop} {x y : Int} (k : R (.returned (.bool (decide (x < y)))) w) : Calls Tryz.prog 86 #[.int .u64 x, .int .u64 y] w R := by
  refine ok_cmp_Less _ _ ?_
  refine ⟨fun b w' => b = decide (x < y) ∧ w' = w, ?_, ?_⟩
  · exact c_isNaN ⟨_, rfl, b_f rfl ⟨rfl, rfl⟩⟩
  · rintro _ b w1 ⟨rfl, rfl⟩
    exact k
/-- The place of a number in a rising list. -/
theorem c_bs {w0 w : World} {R : Ending → World → Prop} {l : List Int} {t : Int} {a : Option Addr} {n c : Nat} {F : Asrt} (hs : l.Pairwise (· ≤ ·)) (hl : l.length ≤ 100000) (h : S w0 w (slA 22 (l.map (Value.int .u64)) a n c * F))
    (k : ∀ (i : Nat) found, i ≤ l.length → (∀ j, j < i → l.getD j 0 < t) → (∀ j, i ≤ j → j < l.length → t ≤ l.getD j 0) → R (.returned (.tuple #[.int .i64 (i : Int), .bool found])) w) :
    Calls Tryz.prog 51 #[.slice a n c, .int .u64 t] w R := by
  obtain rfl : n = l.length := by have := slA_len h; simpa using this
  have hmono : ∀ i j, i ≤ j → j < l.length → l.getD i 0 ≤ l.getD j 0 := fun i j hij hj => by
    rcases Nat.lt_or_eq_of_le hij with h1 | rfl
    · have := List.pairwise_iff_getElem.1 hs i j (by omega) hj h1
      simpa [List.getD_eq_getElem?_getD, List.getElem?_eq_getElem, hj, (by omega : i < l.length)] using this
    · exact Int.le_refl _
  have rd : ∀ i, i < l.length → ∃ ad, a = some ad ∧ w.cell? (ad.add i) = some (.int .u64 (l.getD i 0)) := fun i hi => by
    obtain ⟨ad, e1, e2⟩ := slA_rd h (i := i) (by simpa using hi)
    exact ⟨ad, e1, by rw [e2]; simp [hi, List.getD_eq_getElem?_getD]⟩
  refine ok_slices_BinarySearch _ _ _ _ ?_
  refine ⟨fun lo hi w' => w' = w ∧ 0 ≤ lo ∧ lo ≤ hi ∧ hi ≤ l.length ∧ (∀ j : Nat, (j : Int) < lo → l.getD j 0 < t) ∧ (∀ j : Nat, hi ≤ j → j < l.length → t ≤ l.getD j 0), fun lo hi _ => (hi - lo).toNat, ⟨rfl, by omega, by omega, by omega, fun j hj => by omega, fun j h1 h2 => by omega⟩, ?_⟩
  rintro _ lo hi w1 ⟨rfl, h0, h1, h2, h3, h4⟩
  refine dc (fun hlt => ?_) (fun hlt => ?_)
  · have em : IntKind.i64.wrap (shrI .u64 (IntKind.u64.wrap (IntKind.i64.wrap (lo + hi))) 1) = (lo + hi) / 2 := by
      rw [wi64 (x := lo + hi) (by omega) (by omega), w64_of (by omega) (by omega)]
      have : shrI .u64 (lo + hi) 1 = (lo + hi) / 2 := by
        unfold shrI
        simp [IntKind.bits, Int.fdiv_eq_ediv_of_nonneg]
      rw [this, wi64 (by omega) (by omega)]
    rw [em, wi64 (x := (lo + hi) / 2 + 1) (by omega) (by omega)]
    obtain ⟨mid, hm⟩ : ∃ mid : Nat, (lo + hi) / 2 = mid := ⟨((lo + hi) / 2).toNat, by omega⟩
    rw [hm]
    obtain ⟨ad, rfl, hc⟩ := rd mid (by omega)
    refine ix_mk (by omega) (by omega) ⟨_, by rw [Int.toNat_natCast, Nat.mul_one]; exact hc, c_Less ⟨_, rfl, ?_⟩⟩
    refine dc (fun hc => ⟨⟨rfl, by omega, by omega, by omega, fun j hj => ?_, h4⟩, by simp only []; omega⟩) (fun hc => ⟨⟨rfl, by omega, by omega, by omega, h3, fun j hj1 hj2 => ?_⟩, by simp only []; omega⟩)
    · have := hmono j mid (by omega) (by omega); omega
    · have := hmono mid j (by omega) (by omega); omega
  · obtain ⟨i, rfl⟩ : ∃ i : Nat, lo = i := ⟨lo.toNat, by omega⟩
    have fin : ∀ found, R (.returned (.tuple #[.int .i64 (i : Int), .bool found])) w1 := fun found => k i found (by omega) (fun j hj => h3 j (by omega)) (fun j hj1 hj2 => h4 j (by omega) hj2)
    refine ⟨fun x found w' => x = i ∧ w' = w1, ?_, ?_⟩
    · refine dc (fun hx => ?_) (fun hx => ⟨rfl, rfl⟩)
      obtain ⟨ad, rfl, hc⟩ := rd i (by omega)
      refine ix_mk (by omega) (by omega) ⟨_, by rw [Int.toNat_natCast, Nat.mul_one]; exact hc, ?_⟩
      split
      · refine ix_mk (by omega) (by omega) ⟨_, by rw [Int.toNat_natCast, Nat.mul_one]; exact hc, ?_⟩
        refine ok_slices_isNaN _ ⟨_, rfl, b_f (by simp) ⟨rfl, rfl⟩⟩
      · exact ⟨rfl, rfl⟩
    · rintro _ x found w2 ⟨rfl, rfl⟩
      exact fin found
end Go.Sk
