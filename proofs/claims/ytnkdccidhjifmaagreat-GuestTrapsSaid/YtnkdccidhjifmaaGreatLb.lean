/- The statements of layer 13 (seat Z): both, up, conditions by the reference. -/
import Derived.Test.YtnkdccidhjifmaaGreatLa
import Derived.Test.YtnkdccidhjifmaaGreatOkLa
set_option linter.unusedVariables false
set_option linter.unusedSimpArgs false
namespace Go.Sk
open Go.RowKit Go.Proofs
variable {w0 w : World} {F G : Asrt} {R : Ending → World → Prop}
def lay4 : Lay := [(16, 5), (32, 6), (33, 6), (48, 4)]
def mv4 (L : Lay) (code data : List Int) : Mv := ⟨layOk L, over (over (fun _ => 0) 65536 (code.take 4096)) 131072 (data.take 8192)⟩
structure Two (V : Mv) (n : Nat) (ps : List Pg) (qs : List RPg) : Prop where
  wf : wfs ps
  num : NumsOk ps
  len : ps.length = n
  mv : Sk.mv ps = V
  rwf : rwfs qs
  rsort : rSorted qs
  rlen : qs.length = n
  rmv : Sk.rmv qs = V
theorem Put.num {ps ps' : List Pg} {addr : Int} {l : List Int} (h : Put ps ps' addr l) (hn : NumsOk ps) : NumsOk ps' := by
  have e : ps'.map (·.num) = ps.map (·.num) := by
    have := congrArg (List.map fun x : Int × Value => x.1) h.es
    unfold memEs at this
    rw [List.map_map, List.map_map] at this
    exact this
  refine ⟨by rw [e]; exact hn.nodup, fun p hp => ?_⟩
  have : p.num ∈ ps.map (·.num) := by rw [← e]; exact List.mem_map_of_mem hp
  obtain ⟨x, hx, e2⟩ := List.mem_map.1 this
  rw [← e2]
  exact hn.range x hx
theorem Put.len {ps ps' : List Pg} {addr : Int} {l : List Int} (h : Put ps ps' addr l) : ps'.length = ps.length := by
  have := congrArg List.length h.es
  rwa [memEs_length, memEs_length] at this
theorem Two.put {V : Mv} {n : Nat} {ps ps' : List Pg} {qs qs' : List RPg} {addr : Int} {l : List Int} (h : Two V n ps qs) (hp : Put ps ps' addr l) (hq : RPut qs qs' addr l) : Two ⟨V.ok, over V.byte addr l⟩ n ps' qs' := by
  refine ⟨hp.wf, hp.num h.num, by rw [hp.len, h.len], by rw [hp.mv, h.mv], hq.wf, hq.same.sorted h.rsort, by rw [hq.same.length, h.rlen], by rw [hq.mv, h.rmv]⟩
def zero4 : List Int := List.replicate 4096 0
theorem zero4_len : zero4.length = 4096 := List.length_replicate
theorem zero4_get (j : Nat) : zero4.getD j 0 = 0 := rep_getD 4096 j
theorem Two.shape {L : Lay} {ps : List Pg} {qs : List RPg} (h : Shape L ps) (hr : RShape zero4 L qs) (hl : ∀ x ∈ L, 0 ≤ x.1 ∧ x.1 < 34359738368) (hs : L.Pairwise fun a b => a.1 < b.1) : Two ⟨layOk L, fun _ => 0⟩ L.length ps qs := by
  refine ⟨h.wfs, h.numsOk ?_ fun x hx => ?_, h.length, ?_, hr.wfs zero4_len hl, hr.sorted hs, hr.length, ?_⟩
  · exact List.pairwise_map.2 (hs.imp fun {a b} hab => by omega)
  · have := hl x hx; omega
  · have h1 : (Sk.mv ps).ok = layOk L := by funext p x; exact h.ok p x
    have h2 : (Sk.mv ps).byte = fun _ => 0 := by funext x; exact h.byte x
    calc Sk.mv ps = ⟨(Sk.mv ps).ok, (Sk.mv ps).byte⟩ := rfl
      _ = _ := by rw [h1, h2]
  · have h1 : (Sk.rmv qs).ok = layOk L := by funext p x; exact hr.ok p x
    have h2 : (Sk.rmv qs).byte = fun _ => 0 := by funext x; exact hr.byte zero4_get x
    calc Sk.rmv qs = ⟨(Sk.rmv qs).ok, (Sk.rmv qs).byte⟩ := rfl
      _ = _ := by rw [h1, h2]
def arrA : Array Value := #[.int .u64 65536, .int .u64 131072, .int .u64 135168, .int .u64 196608]
def arrP : Array Value := #[.int .i64 5, .int .i64 6, .int .i64 6, .int .i64 4]
theorem lay4_at {i : Nat} (h : i < 4) : ∃ n pm : Int, arrA[0 + (i : Int).toNat * 1]? = some (.int .u64 (n * 4096)) ∧ arrP[0 + (i : Int).toNat * 1]? = some (.int .i64 pm) ∧ 1 ≤ n ∧ n ≤ 48 ∧ 0 ≤ pm ∧ pm ≤ 7 ∧
    (∀ x ∈ lay4.take i, x.1 < n) ∧ lay4.take (i + 1) = lay4.take i ++ [(n, pm)] := by
  rcases i with _ | _ | _ | _ | i
  · exact ⟨16, 5, rfl, rfl, by decide, by decide, by decide, by decide, by decide, rfl⟩
  · exact ⟨32, 6, rfl, rfl, by decide, by decide, by decide, by decide, by decide, rfl⟩
  · exact ⟨33, 6, rfl, rfl, by decide, by decide, by decide, by decide, by decide, rfl⟩
  · exact ⟨48, 4, rfl, rfl, by decide, by decide, by decide, by decide, by decide, rfl⟩
  · omega
theorem look4a {l : List Int} : ∀ j : Nat, j < (l.take 4096).length → (lay4.lookup ((65536 + (j : Int)) % 18446744073709551616 / 4096)).isSome = true := fun j hj => by
  rw [List.length_take] at hj
  rw [show (65536 + (j : Int)) % 18446744073709551616 / 4096 = 16 by omega]
  rfl
theorem look4b {l : List Int} : ∀ j : Nat, j < (l.take 8192).length → (lay4.lookup ((131072 + (j : Int)) % 18446744073709551616 / 4096)).isSome = true := fun j hj => by
  rw [List.length_take] at hj
  have : (131072 + (j : Int)) % 18446744073709551616 / 4096 = 32 ∨ (131072 + (j : Int)) % 18446744073709551616 / 4096 = 33 := by omega
  rcases this with e | e <;> rw [e] <;> rfl
set_option maxHeartbeats 1000000 in
theorem c_both {code data : List Int} {ca da : Option Addr} {cc dcp : Nat} (hc : Gives F ca code) (hd : Gives F da data) (hcl : code.length ≤ cc) (hdl : data.length ≤ dcp) (h : S w0 w F)
    (k : ∀ m r ps mr qs w', Two (mv4 lay4 code data) 4 ps qs → S w0 w' (memA m r 8 ps * (rmemA mr 8 qs * F)) → R (.returned (.tuple #[.pointer (some ⟨m, 0, none⟩), .pointer (some ⟨mr, 0, none⟩)])) w') :
    Calls Tryz.prog 15 #[.slice ca code.length cc, .slice da data.length dcp] w R := by
  refine ok_shacklelaw13_both _ _ _ _ _ _ ?_
  refine c_New (by decide) (by decide) h fun m r w1 h1 => ⟨_, _, rfl, ?_⟩
  refine c_rNew (by decide) (by decide) h1 fun mr w2 h2 => ⟨_, rfl, ?_⟩
  refine ⟨fun y w' => y = false ∧ w' = w2, ift rfl (nq_nil (ift rfl ⟨rfl, rfl⟩)), ?_⟩
  rintro _ y w3 ⟨rfl, rfl⟩
  refine b_f rfl (al h2 fun b1 w4 h4 => al h4 fun b2 w5 h5' => ?_)
  have h5 : S w0 w5 (memA m r 8 [] * (rmemA mr 8 [] * (pts b1 (.cells arrA 22 (0, 0)) * (pts b2 (.cells arrP 3 (0, 0)) * F)))) := h5'.eq (by
    show pts b2 (.cells arrP 3 (0, 0)) * (pts b1 (.cells arrA 22 (0, 0)) * _) = _
    ac_rfl)
  refine ⟨fun y w' => ∃ (i : Nat) (ps : List Pg) (qs : List RPg), y = i ∧ i ≤ 4 ∧ Shape (lay4.take i) ps ∧ RShape zero4 (lay4.take i) qs ∧ S w0 w' (memA m r 8 ps * (rmemA mr 8 qs * (pts b1 (.cells arrA 22 (0, 0)) * (pts b2 (.cells arrP 3 (0, 0)) * F)))), fun y _ => (4 - y).toNat,
    ⟨0, [], [], rfl, by decide, rfl, rfl, h5⟩, ?_⟩
  rintro _ y w6 ⟨i, ps, qs, rfl, hi, hs, hr, h6⟩
  refine dc (fun hlt => ?_) (fun hlt => ?_)
  · obtain ⟨n, pm, e1, e2, n1, n48, p0, p7, hfr, e3⟩ := lay4_at (i := i) (by omega)
    have hlen : ps.length = i := by rw [hs.length, List.length_take]; show min i 4 = i; omega
    have hlenq : qs.length = i := by rw [hr.length, List.length_take]; show min i 4 = i; omega
    have hnum : NumsOk ps := hs.numsOk ((by decide : (lay4.map (·.1)).Nodup).sublist ((List.take_sublist i lay4).map _)) fun x hx => (by decide : ∀ x ∈ lay4, 0 ≤ x.1 ∧ x.1 < 18446744073709551616) x (List.mem_of_mem_take hx)
    refine dr h6 fun w7 h7 => ix_mk (by omega) (by omega) ⟨_, ld h7 e1, ix_mk (by omega) (by omega) ⟨_, ld h7 e2, ?_⟩⟩
    refine c_Map hnum (by decide) p0 p7 (by omega) (by omega) (by omega) (by decide) (by omega) (by omega) ?_ h7 fun bs w8 hb h8 => ⟨_, rfl, ?_⟩
    · intro p hp
      have : p.num ∈ (lay4.take i).map (·.1) := by rw [← hs.nums]; exact List.mem_map_of_mem hp
      obtain ⟨x, hx, e⟩ := List.mem_map.1 this
      have := hfr x hx
      omega
    obtain ⟨b, rfl⟩ : ∃ b, bs = [b] := by
      rcases bs with _ | ⟨b, _ | ⟨b', bs⟩⟩
      · simp at hb
      · exact ⟨b, rfl⟩
      · simp at hb; omega
    have en : n * 4096 / 4096 = n := by omega
    rw [en] at h8
    refine dr h8 fun w9 h9 => ix_mk (by omega) (by omega) ⟨_, ld h9 e1, ix_mk (by omega) (by omega) ⟨_, ld h9 e2, ?_⟩⟩
    refine c_rMap (by decide) p0 p7 (by omega) (by omega) (by omega) (hr.wfs zero4_len fun x hx => (by decide : ∀ x ∈ lay4, 0 ≤ x.1 ∧ x.1 < 34359738368) x (List.mem_of_mem_take hx)) (by decide) (by omega) ?_ (h9.eq (mulL _ _ _)) fun bs w10 hb h10 => ⟨_, _, _, rfl, nq_nil (b_f rfl ?_)⟩
    · intro p hp
      have : p.addr ∈ (lay4.take i).map (·.1 * 4096) := by rw [← hr.addrs]; exact List.mem_map_of_mem hp
      obtain ⟨x, hx, e⟩ := List.mem_map.1 this
      have := hfr x hx
      omega
    obtain ⟨b', rfl⟩ : ∃ b, bs = [b] := by
      rcases bs with _ | ⟨b, _ | ⟨b', bs⟩⟩
      · simp at hb
      · exact ⟨b, rfl⟩
      · simp at hb; omega
    rw [wi64 (x := (i : Int) + 1) (by omega) (by omega)]
    refine ⟨⟨i + 1, _, _, by omega, by omega, ?_, ?_, h10.eq (mulL _ _ _)⟩, by simp only []; omega⟩
    · rw [e3]; exact hs.snoc n pm b
    · rw [e3]
      have := hr.snoc n pm b'
      rw [rNewPg, rNewPg]
      have e0 : n * 4096 + ((0 : Nat) : Int) * 4096 = n * 4096 := by omega
      rw [e0]
      exact this
  obtain rfl : i = 4 := by omega
  have h7 : S w0 w6 (memA m r 8 ps * (rmemA mr 8 qs * F)) := (h6.eq (show _ = (pts b1 (.cells arrA 22 (0, 0)) * pts b2 (.cells arrP 3 (0, 0))) * _ by ac_rfl)).drop
  have t0 : Two ⟨layOk lay4, fun _ => 0⟩ 4 ps qs := Two.shape hs hr (by decide) (by decide)
  refine ⟨fun z w' => z = (ca, (code.take 4096).length, cc) ∧ w' = w6, ?_, ?_⟩
  · refine dc (fun hgt => ⟨⟨by omega, by omega⟩, ?_, rfl⟩) (fun hgt => ⟨?_, rfl⟩)
    · rw [List.length_take, Nat.min_eq_left (by omega)]
    · rw [List.length_take, Nat.min_eq_right (by omega)]
  rintro _ z w8 ⟨rfl, rfl⟩
  refine ⟨fun z w' => z = (da, (data.take 8192).length, dcp) ∧ w' = w8, ?_, ?_⟩
  · refine dc (fun hgt => ⟨⟨by omega, by omega⟩, ?_, rfl⟩) (fun hgt => ⟨?_, rfl⟩)
    · rw [List.length_take, Nat.min_eq_left (by omega)]
    · rw [List.length_take, Nat.min_eq_right (by omega)]
  rintro _ z w9 ⟨rfl, rfl⟩
  have cl : (code.take 4096).length ≤ 100000 := by rw [List.length_take]; omega
  have dl : (data.take 8192).length ≤ 100000 := by rw [List.length_take]; omega
  refine c_Poke (l := code.take 4096) t0.wf cl ((hc.take 4096).frame _) h7 fun v ps1 w10 hp1 h10 => ⟨_, rfl, ?_⟩
  rw [t0.mv, lay_write look4a] at hp1 h10
  obtain ⟨rfl, h11⟩ := err_none h10
  refine c_rPoke (l := code.take 4096) t0.rwf t0.rsort (by rw [t0.rlen]; omega) cl (by omega) (by omega) ((hc.take 4096).frame _) (h11.eq (mulL _ _ _)) fun qs1 w12 hq1 h12 => ?_
  rw [t0.rmv, lay_write look4a] at hq1 ⊢
  have t1 := t0.put hp1 hq1
  refine ⟨_, _, _, rfl, ?_⟩
  refine c_Poke (l := data.take 8192) t1.wf dl ((hd.take 8192).frame _) (h12.eq (mulL _ _ _)) fun v ps2 w13 hp2 h13 => ⟨_, rfl, ?_⟩
  rw [t1.mv, lay_write look4b] at hp2 h13
  obtain ⟨rfl, h14⟩ := err_none h13
  refine c_rPoke (l := data.take 8192) t1.rwf t1.rsort (by rw [t1.rlen]; omega) dl (by omega) (by omega) ((hd.take 8192).frame _) (h14.eq (mulL _ _ _)) fun qs2 w15 hq2 h15 => ?_
  rw [t1.rmv, lay_write look4b] at hq2 ⊢
  refine ⟨_, _, _, rfl, ?_⟩
  exact k m r ps2 mr qs2 w15 (t1.put hp2 hq2) (h15.eq (mulL _ _ _))
end Go.Sk
