/- The statements of layer 20 (seat Z): the linker's page, both, stack. -/
import Derived.Test.YtnkdccidhjifmaaGreatGd
import Derived.Test.YtnkdccidhjifmaaGreatRc
set_option linter.unusedVariables false
set_option linter.unusedSimpArgs false
namespace Go.Sk
open Go.RowKit Go.Proofs
variable {w0 w : World} {F G : Asrt} {R : Ending → World → Prop}
variable {T : TypeId} {b m r tb rg : Nat} {q : Int} {ps : List Pg} {p : Pr}
def lay3 : Lay := [(16, 5), (32, 6), (33, 6)]
def lay20 : Lay := [(16, 5), (32, 6), (33, 6), (458752, 5)]
def pokeB : Nat → Int → Int
  | 0 => fun _ => 0
  | i + 1 => over (pokeB i) (1879048192 + 16 * (i : Int)) [244]
def pokeV (i : Nat) : Mv := ⟨layOk lay20, pokeB i⟩
def mv20 (code data : List Int) : Mv := ⟨layOk lay20, over (over (pokeB 3) 65536 (code.take 4096)) 131072 (data.take 8192)⟩
theorem poke_look {i : Nat} (h : i < 3) : ∀ j : Nat, j < [(244 : Int)].length → (lay20.lookup ((1879048192 + 16 * (i : Int) + (j : Int)) % 18446744073709551616 / 4096)).isSome = true := fun j hj => by
  simp at hj
  subst hj
  rw [show (1879048192 + 16 * (i : Int) + ((0 : Nat) : Int)) % 18446744073709551616 / 4096 = 458752 by omega]
  rfl
theorem one_at {b : Nat} {x : Int} {G : Asrt} : Gives (pts b (.cells #[.int .u8 x] 5 (0, 0)) * G) (some ⟨b, 0, none⟩) [x] := Gives.at (fun j hj => by
  simp at hj
  subst hj
  rfl)
structure One (V : Mv) (n : Nat) (ps : List Pg) : Prop where
  wf : wfs ps
  num : NumsOk ps
  len : ps.length = n
  mv : Sk.mv ps = V
  nums : ps.map (·.num) = [16, 32, 33, 458752]
  perm : ∀ k, (pgFind ps k).map (·.perm) = lay20.lookup k
theorem memEs_nums (ps : List Pg) : (memEs ps).map (·.1) = ps.map (·.num) := by
  unfold memEs
  rw [List.map_map]
  rfl
theorem One.put {V : Mv} {n : Nat} {ps ps' : List Pg} {addr : Int} {l : List Int} (h : One V n ps) (hp : Put ps ps' addr l) : One ⟨V.ok, over V.byte addr l⟩ n ps' :=
  ⟨hp.wf, hp.num h.num, by rw [hp.len, h.len], by rw [hp.mv, h.mv], by rw [← memEs_nums, hp.es, memEs_nums, h.nums], fun k => (hp.perm k).trans (h.perm k)⟩
structure ROne (V : Mv) (n : Nat) (qs : List RPg) : Prop where
  rwf : rwfs qs
  rsort : rSorted qs
  rlen : qs.length = n
  rmv : Sk.rmv qs = V
theorem ROne.put {V : Mv} {n : Nat} {qs qs' : List RPg} {addr : Int} {l : List Int} (h : ROne V n qs) (hq : RPut qs qs' addr l) : ROne ⟨V.ok, over V.byte addr l⟩ n qs' :=
  ⟨hq.wf, hq.same.sorted h.rsort, by rw [hq.same.length, h.rlen], by rw [hq.mv, h.rmv]⟩
theorem One.shape {L : Lay} {ps : List Pg} (h : Shape L ps) (hL : L = lay20) (hl : ∀ x ∈ L, 0 ≤ x.1 ∧ x.1 < 34359738368) (hs : L.Pairwise fun a b => a.1 < b.1) : One ⟨layOk L, fun _ => 0⟩ L.length ps := by
  refine ⟨h.wfs, h.numsOk ?_ fun x hx => ?_, h.length, ?_, ?_, ?_⟩
  · exact List.pairwise_map.2 (hs.imp fun {a b} hab => by omega)
  · have := hl x hx; omega
  · have h1 : (Sk.mv ps).ok = layOk L := by funext p x; exact h.ok p x
    have h2 : (Sk.mv ps).byte = fun _ => 0 := by funext x; exact h.byte x
    calc Sk.mv ps = ⟨(Sk.mv ps).ok, (Sk.mv ps).byte⟩ := rfl
      _ = _ := by rw [h1, h2]
  · rw [h.nums, hL]; rfl
  · intro k
    have := congrArg (Option.map (fun x : Int × Option (Nat × List Int) => x.1)) (h.find k)
    rw [Option.map_map, Option.map_map] at this
    refine Eq.trans ?_ (this.trans ?_)
    · rfl
    · rw [hL]
      cases lay20.lookup k <;> rfl
theorem ROne.shape {L : Lay} {qs : List RPg} (hr : RShape zero4 L qs) (hl : ∀ x ∈ L, 0 ≤ x.1 ∧ x.1 < 34359738368) (hs : L.Pairwise fun a b => a.1 < b.1) : ROne ⟨layOk L, fun _ => 0⟩ L.length qs := by
  refine ⟨hr.wfs zero4_len hl, hr.sorted hs, hr.length, ?_⟩
  have h1 : (Sk.rmv qs).ok = layOk L := by funext p x; exact hr.ok p x
  have h2 : (Sk.rmv qs).byte = fun _ => 0 := by funext x; exact hr.byte zero4_get x
  calc Sk.rmv qs = ⟨(Sk.rmv qs).ok, (Sk.rmv qs).byte⟩ := rfl
    _ = _ := by rw [h1, h2]
theorem one_of {bs : List Nat} (h : (bs.length : Int) = 1) : ∃ b, bs = [b] := by
  rcases bs with _ | ⟨b, _ | ⟨b', bs⟩⟩
  · simp at h
  · exact ⟨b, rfl⟩
  · simp at h; omega
theorem two_of {bs : List Nat} (h : (bs.length : Int) = 2) : ∃ b c, bs = [b, c] := by
  rcases bs with _ | ⟨b, _ | ⟨c, _ | ⟨d, bs⟩⟩⟩
  · simp at h
  · simp at h
  · exact ⟨b, c, rfl⟩
  · simp at h; omega
set_option maxHeartbeats 1000000 in
theorem c_Page (hs : Shape lay3 ps) (h : S w0 w (memA m r 8 ps * F))
    (k : ∀ ps' w', One (pokeV 3) 4 ps' → S w0 w' (memA m r 8 ps' * F) → R (.returned .nilIface) w') : Calls Tryz.prog 41 #[.pointer (some ⟨m, 0, none⟩)] w R := by
  have hnum : NumsOk ps := hs.numsOk (by decide) (by decide)
  have hlen : ps.length = 3 := hs.length
  refine ok_guest_Page _ (b_f rfl ?_)
  refine c_Map hnum (by decide) (by decide) (by decide) (by decide) (by decide) (by decide) (by decide) (by omega) (by omega) ?_ h fun bs w1 hb h1 => ⟨_, rfl, nq_nil (b_f rfl (al h1 fun b5 w2 h2' => ?_))⟩
  · intro p hp
    have : p.num ∈ lay3.map (·.1) := by rw [← hs.nums]; exact List.mem_map_of_mem hp
    have h9 : ∀ n ∈ lay3.map (·.1), n < 458752 := by decide
    have := h9 _ this
    omega
  obtain ⟨bp, rfl⟩ := one_of hb
  have hs2 : Shape lay20 (ps ++ newPgs 5 (1879048192 / 4096) [bp]) := hs.snoc 458752 5 bp
  have o0 : One (pokeV 0) 4 (ps ++ newPgs 5 (1879048192 / 4096) [bp]) := One.shape hs2 rfl (by decide) (by decide)
  generalize ps ++ newPgs 5 (1879048192 / 4096) [bp] = ps1 at *
  have h2 : S w0 w2 (memA m r 8 ps1 * (pts b5 (.cells #[.int .u64 1879048192, .int .u64 1879048208, .int .u64 1879048224] 22 (0, 0)) * F)) := h2'.eq (mulL _ _ _)
  refine ⟨fun y w' => ∃ (i : Nat) (ps' : List Pg), y = i ∧ i ≤ 3 ∧ One (pokeV i) 4 ps' ∧ S w0 w' (memA m r 8 ps' * (pts b5 (.cells #[.int .u64 1879048192, .int .u64 1879048208, .int .u64 1879048224] 22 (0, 0)) * F)), fun y _ => (3 - y).toNat, ⟨0, ps1, rfl, by omega, o0, h2⟩, ?_⟩
  rintro _ y w3 ⟨i, ps2, rfl, hi, o2, h3⟩
  refine dc (fun hlt => ?_) (fun hlt => ?_)
  · have hr : (#[.int .u64 1879048192, .int .u64 1879048208, .int .u64 1879048224] : Array Value)[0 + (i : Int).toNat * 1]? = some (.int .u64 (1879048192 + 16 * (i : Int))) := by
      have : i = 0 ∨ i = 1 ∨ i = 2 := by omega
      rcases this with rfl | rfl | rfl <;> rfl
    refine ix_mk (by omega) (by omega) ⟨_, ld h3 hr, al h3 fun b8 w4 h4 => ?_⟩
    refine c_Poke (l := [244]) o2.wf (by decide) one_at (h4.eq (mulL _ _ _)) fun v ps3 w5 hp h5 => ⟨_, rfl, ?_⟩
    rw [o2.mv, show rWrite (pokeV i) 0 6 (1879048192 + 16 * (i : Int)) [244] = none from lay_write (poke_look (by omega))] at hp h5
    obtain ⟨rfl, h6⟩ := err_none h5
    rw [wi64 (x := (i : Int) + 1) (by omega) (by omega)]
    refine nq_nil (b_f rfl ⟨⟨i + 1, ps3, by omega, by omega, o2.put hp, ?_⟩, by simp only []; omega⟩)
    exact (h6.eq (mulL _ _ _)).drop
  · obtain rfl : i = 3 := by omega
    exact k ps2 w3 o2 (h3.eq (mulL _ _ _)).drop
set_option maxHeartbeats 1000000 in
theorem c_rPage {qs : List RPg} (hs : RShape zero4 lay3 qs) (h : S w0 w (rmemA m 8 qs * F))
    (k : ∀ qs' w', ROne (pokeV 3) 4 qs' → S w0 w' (rmemA m 8 qs' * F) → R (.returned (.agg #[.int .i64 0, .bool false, .int .u64 0, .int .i64 0])) w') : Calls Tryz.prog 42 #[.pointer (some ⟨m, 0, none⟩)] w R := by
  have hlen : qs.length = 3 := hs.length
  refine ok_shackleref20_Page _ (al h fun b1 w1 h1 => ?_)
  refine c_rMap (by decide) (by decide) (by decide) (by decide) (by decide) (by decide) (hs.wfs zero4_len (by decide)) (by decide) (by omega) ?_ (h1.eq (mulL _ _ _)) fun bs w2 hb h2 => ⟨_, _, _, rfl, al h2 fun b8 w3 h3' => sww h3' rfl rfl trivial fun w4 h4 => ⟨_, ld h4 rfl, b_f rfl ?_⟩⟩
  · intro p hp
    have : p.addr ∈ lay3.map (·.1 * 4096) := by rw [← hs.addrs]; exact List.mem_map_of_mem hp
    have h9 : ∀ n ∈ lay3.map (·.1 * 4096), n + 4096 ≤ 1879048192 := by decide
    exact h9 _ this
  obtain ⟨bp, rfl⟩ := one_of hb
  have hs2 : RShape zero4 lay20 (qs ++ rNewPg 1879048192 5 0 [bp]) := hs.snoc 458752 5 bp
  have o0 : ROne (pokeV 0) 4 (qs ++ rNewPg 1879048192 5 0 [bp]) := ROne.shape hs2 (by decide) (by decide)
  generalize qs ++ rNewPg 1879048192 5 0 [bp] = qs1 at *
  have h5 : S w0 w4 (rmemA m 8 qs1 * (pts b8 (.cells (badC none).toArray 84 (0, 0)) * (pts b1 (.cells #[.int .i64 0, .bool false, .int .u64 0, .int .i64 0] 99 (0, 0)) * F))) := h4.eq (by
    show pts b8 (.cells (badC none).toArray 84 (0, 0)) * (rmemA m 8 qs1 * _) = _
    ac_rfl)
  refine al h5 fun b01 w01 h01 => ?_
  refine c_rPoke (l := [244]) o0.rwf o0.rsort (by rw [o0.rlen]; omega) (by decide) (by decide) (by decide) one_at (h01.eq (mulL _ _ _)) fun qs0 w02 hq0 h02 => ?_
  rw [o0.rmv, show rWrite (pokeV 0) 0 6 1879048192 [244] = none from lay_write (poke_look (i := 0) (by omega))] at hq0 ⊢
  refine ⟨_, _, _, rfl, ?_⟩
  have o1 : ROne (pokeV 1) 4 qs0 := o0.put hq0
  refine al h02 fun b11 w11 h11 => ?_
  refine c_rPoke (l := [244]) o1.rwf o1.rsort (by rw [o1.rlen]; omega) (by decide) (by decide) (by decide) one_at (h11.eq (mulL _ _ _)) fun qs1 w12 hq1 h12 => ?_
  rw [o1.rmv, show rWrite (pokeV 1) 0 6 1879048208 [244] = none from lay_write (poke_look (i := 1) (by omega))] at hq1 ⊢
  refine ⟨_, _, _, rfl, ?_⟩
  have o2 : ROne (pokeV 2) 4 qs1 := o1.put hq1
  refine al h12 fun b21 w21 h21 => ?_
  refine c_rPoke (l := [244]) o2.rwf o2.rsort (by rw [o2.rlen]; omega) (by decide) (by decide) (by decide) one_at (h21.eq (mulL _ _ _)) fun qs2 w22 hq2 h22 => ?_
  rw [o2.rmv, show rWrite (pokeV 2) 0 6 1879048224 [244] = none from lay_write (poke_look (i := 2) (by omega))] at hq2 ⊢
  refine ⟨_, _, _, rfl, ?_⟩
  have o3 : ROne (pokeV 3) 4 qs2 := o2.put hq2
  refine sww (h22.eq (show _ = pts b1 (.cells #[.int .i64 0, .bool false, .int .u64 0, .int .i64 0] 99 (0, 0)) * ((pts b8 (.cells (badC none).toArray 84 (0, 0)) * (pts b01 (.cells #[.int .u8 244] 5 (0, 0)) * (pts b11 (.cells #[.int .u8 244] 5 (0, 0)) * pts b21 (.cells #[.int .u8 244] 5 (0, 0))))) * (rmemA m 8 qs2 * F)) by ac_rfl)) rfl rfl trivial fun w6 h6 => ?_
  iterate 4 refine ⟨_, ld h6 rfl, ?_⟩
  exact k qs2 w6 o3 h6.drop.drop
structure Two20 (V : Mv) (ps : List Pg) (qs : List RPg) : Prop where
  o : One V 4 ps
  r : ROne V 4 qs
theorem look20a {l : List Int} : ∀ j : Nat, j < (l.take 4096).length → (lay20.lookup ((65536 + (j : Int)) % 18446744073709551616 / 4096)).isSome = true := fun j hj => by
  rw [List.length_take] at hj
  rw [show (65536 + (j : Int)) % 18446744073709551616 / 4096 = 16 by omega]
  rfl
theorem look20b {l : List Int} : ∀ j : Nat, j < (l.take 8192).length → (lay20.lookup ((131072 + (j : Int)) % 18446744073709551616 / 4096)).isSome = true := fun j hj => by
  rw [List.length_take] at hj
  have : (131072 + (j : Int)) % 18446744073709551616 / 4096 = 32 ∨ (131072 + (j : Int)) % 18446744073709551616 / 4096 = 33 := by omega
  rcases this with e | e <;> rw [e] <;> rfl
set_option maxHeartbeats 1000000 in
theorem c_both20 {code data : List Int} {ca da : Option Addr} {cc dcp : Nat} (hc : Gives F ca code) (hd : Gives F da data) (hcl : code.length ≤ cc) (hdl : data.length ≤ dcp) (h : S w0 w F)
    (k : ∀ m r ps mr qs w', Two20 (mv20 code data) ps qs → S w0 w' (memA m r 8 ps * (rmemA mr 8 qs * F)) → R (.returned (.tuple #[.pointer (some ⟨m, 0, none⟩), .pointer (some ⟨mr, 0, none⟩)])) w') :
    Calls Tryz.prog 18 #[.slice ca code.length cc, .slice da data.length dcp] w R := by
  refine ok_shacklelaw20_both _ _ _ _ _ _ ?_
  refine c_New (by decide) (by decide) h fun m r w1 h1 => ⟨_, _, rfl, ?_⟩
  refine c_rNew (by decide) (by decide) h1 fun mr w2 h2 => ⟨_, rfl, ?_⟩
  refine ⟨fun y w' => y = false ∧ w' = w2, ift rfl (nq_nil (ift rfl ⟨rfl, rfl⟩)), ?_⟩
  rintro _ y w3 ⟨rfl, rfl⟩
  refine b_f rfl ?_
  refine c_Map NumsOk.nil (by decide) (by decide) (by decide) (by decide) (by decide) (by decide) (by decide) (by decide) (by decide) (fun p hp => by cases hp) (h2.eq (mulL _ _ _)) fun bs1 w4 hb1 h4 => ⟨_, rfl, ?_⟩
  obtain ⟨b1, rfl⟩ := one_of hb1
  have s1 : Shape [(16, 5)] ([] ++ newPgs 5 (65536 / 4096) [b1]) := rfl
  generalize [] ++ newPgs 5 (65536 / 4096) [b1] = ps1 at *
  have n1 : NumsOk ps1 := s1.numsOk (by decide) (by decide)
  refine c_Map n1 (by decide) (by decide) (by decide) (by decide) (by decide) (by decide) (by decide) (by rw [s1.length]; decide) (by rw [s1.length]; decide) ?_ h4 fun bs2 w5 hb2 h5 => ⟨_, rfl, ?_⟩
  · intro p hp
    have : p.num ∈ [(16 : Int)] := by rw [show [(16 : Int)] = ps1.map (·.num) from s1.nums.symm]; exact List.mem_map_of_mem hp
    simp at this
    omega
  obtain ⟨b2, b3, rfl⟩ := two_of hb2
  have s2 : Shape lay3 (ps1 ++ newPgs 6 (131072 / 4096) [b2, b3]) := by
    have e : ps1 ++ newPgs 6 (131072 / 4096) [b2, b3] = (ps1 ++ newPgs 6 32 [b2]) ++ newPgs 6 33 [b3] := by rw [List.append_assoc]; rfl
    rw [e]
    exact (s1.snoc 32 6 b2).snoc 33 6 b3
  generalize ps1 ++ newPgs 6 (131072 / 4096) [b2, b3] = ps2 at *
  refine c_Page s2 h5 fun ps3 w6 o3 h6 => ⟨_, rfl, ?_⟩
  refine c_rMap (by decide) (by decide) (by decide) (by decide) (by decide) (by decide) (fun p hp => by cases hp) (by decide) (by decide) (fun p hp => by cases hp) (h6.eq (mulL _ _ _)) fun bs4 w7 hb4 h7 => ⟨_, _, _, rfl, ?_⟩
  obtain ⟨b4, rfl⟩ := one_of hb4
  have t1 : RShape zero4 [(16, 5)] ([] ++ rNewPg 65536 5 0 [b4]) := rfl
  generalize [] ++ rNewPg 65536 5 0 [b4] = qs1 at *
  refine c_rMap (by decide) (by decide) (by decide) (by decide) (by decide) (by decide) (t1.wfs zero4_len (by decide)) (by decide) (by rw [t1.length]; decide) ?_ h7 fun bs5 w8 hb5 h8 => ⟨_, _, _, rfl, ?_⟩
  · intro p hp
    have : p.addr ∈ [(16 * 4096 : Int)] := by rw [show [(16 * 4096 : Int)] = qs1.map (·.addr) from t1.addrs.symm]; exact List.mem_map_of_mem hp
    simp at this
    omega
  obtain ⟨b5, b6, rfl⟩ := two_of hb5
  have t2 : RShape zero4 lay3 (qs1 ++ rNewPg 131072 6 0 [b5, b6]) := by
    have e : qs1 ++ rNewPg 131072 6 0 [b5, b6] = (qs1 ++ rNewPg 131072 6 0 [b5]) ++ rNewPg 135168 6 0 [b6] := by rw [List.append_assoc]; rfl
    rw [e]
    exact (t1.snoc 32 6 b5).snoc 33 6 b6
  generalize qs1 ++ rNewPg 131072 6 0 [b5, b6] = qs2 at *
  refine c_rPage t2 h8 fun qs3 w9 r3 h9 => ⟨_, _, _, _, rfl, ?_⟩
  refine ⟨fun y w' => y = false ∧ w' = w9, nq_nil (ift rfl (nq_nil (ift rfl (nq_nil ⟨rfl, rfl⟩)))), ?_⟩
  rintro _ y w10 ⟨rfl, rfl⟩
  refine b_f rfl ?_
  refine ⟨fun z w' => z = (ca, (code.take 4096).length, cc) ∧ w' = w10, ?_, ?_⟩
  · refine dc (fun hgt => ⟨⟨by omega, by omega⟩, ?_, rfl⟩) (fun hgt => ⟨?_, rfl⟩)
    · rw [List.length_take, Nat.min_eq_left (by omega)]
    · rw [List.length_take, Nat.min_eq_right (by omega)]
  rintro _ z w11 ⟨rfl, rfl⟩
  refine ⟨fun z w' => z = (da, (data.take 8192).length, dcp) ∧ w' = w11, ?_, ?_⟩
  · refine dc (fun hgt => ⟨⟨by omega, by omega⟩, ?_, rfl⟩) (fun hgt => ⟨?_, rfl⟩)
    · rw [List.length_take, Nat.min_eq_left (by omega)]
    · rw [List.length_take, Nat.min_eq_right (by omega)]
  rintro _ z w12 ⟨rfl, rfl⟩
  have cl : (code.take 4096).length ≤ 100000 := by rw [List.length_take]; omega
  have dl : (data.take 8192).length ≤ 100000 := by rw [List.length_take]; omega
  refine c_Poke (l := code.take 4096) o3.wf cl ((hc.take 4096).frame _) (h9.eq (mulL _ _ _)) fun v ps4 w13 hp1 h13 => ⟨_, rfl, ?_⟩
  rw [o3.mv, show rWrite (pokeV 3) 0 6 65536 (code.take 4096) = none from lay_write look20a] at hp1 h13
  obtain ⟨rfl, h14⟩ := err_none h13
  refine c_rPoke (l := code.take 4096) r3.rwf r3.rsort (by rw [r3.rlen]; omega) cl (by omega) (by omega) ((hc.take 4096).frame _) (h14.eq (mulL _ _ _)) fun qs4 w15 hq1 h15 => ?_
  rw [r3.rmv, show rWrite (pokeV 3) 0 6 65536 (code.take 4096) = none from lay_write look20a] at hq1 ⊢
  have o4 := o3.put hp1
  have r4 := r3.put hq1
  refine ⟨_, _, _, rfl, ?_⟩
  refine c_Poke (l := data.take 8192) o4.wf dl ((hd.take 8192).frame _) (h15.eq (mulL _ _ _)) fun v ps5 w16 hp2 h16 => ⟨_, rfl, ?_⟩
  rw [o4.mv, show rWrite ⟨(pokeV 3).ok, over (pokeV 3).byte 65536 (code.take 4096)⟩ 0 6 131072 (data.take 8192) = none from lay_write look20b] at hp2 h16
  obtain ⟨rfl, h17⟩ := err_none h16
  refine c_rPoke (l := data.take 8192) r4.rwf r4.rsort (by rw [r4.rlen]; omega) dl (by omega) (by omega) ((hd.take 8192).frame _) (h17.eq (mulL _ _ _)) fun qs5 w18 hq2 h18 => ?_
  rw [r4.rmv, show rWrite ⟨(pokeV 3).ok, over (pokeV 3).byte 65536 (code.take 4096)⟩ 0 6 131072 (data.take 8192) = none from lay_write look20b] at hq2 ⊢
  refine ⟨_, _, _, rfl, ?_⟩
  exact k m r ps5 mr qs5 w18 ⟨o4.put hp2, r4.put hq2⟩ (h18.eq (mulL _ _ _))
def stG : Rg := ⟨fun i => if i = 4 then 135168 else 0, 0, 0, false, false, false, false, false⟩
theorem c_stack (h : S w0 w F) (k : ∀ w', S w0 w' F → R (.returned stG.val) w') : Calls Tryz.prog 20 #[] w R := by
  refine ok_shacklelaw20_stack (al h fun b1 w1 h1 => al h1 fun b2 w2 h2 => st h2 rfl fun w3 h3 => ?_)
  iterate 23 refine ⟨_, ld h3 rfl, ?_⟩
  refine sww h3 rfl rfl trivial fun w4 h4 => ?_
  iterate 23 refine ⟨_, ld h4 rfl, ?_⟩
  exact k w4 h4.drop.drop
end Go.Sk
