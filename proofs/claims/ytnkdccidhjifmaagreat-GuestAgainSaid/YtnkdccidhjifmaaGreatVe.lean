/- Own ground: regions, structured code, a whole function. -/
import Derived.Test.YtnkdccidhjifmaaGreatVd
set_option linter.unusedVariables false
set_option linter.unusedSimpArgs false
namespace Go.Sk
open Go.RowKit

/-! ### What stands in slots that live on -/
inductive Tag where
  | int (k : IntKind) | bool | ptr | sl | str | map | any
abbrev Tag.T : Tag → Type
  | .int _ => Int
  | .bool => Bool
  | .ptr => Option Addr
  | .sl => Option Addr × Nat × Nat
  | .str => ByteArray
  | .map => Option Nat
  | .any => Value
def Tag.v : (g : Tag) → g.T → Value
  | .int k, x => .int k x
  | .bool, x => .bool x
  | .ptr, x => .pointer x
  | .sl, x => .slice x.1 x.2.1 x.2.2
  | .str, x => .string x
  | .map, x => .map x
  | .any, x => x
def Tag.get (g : Tag) (v : Value) : Option { x : g.T // g.v x = v } :=
  match g, v with
  | .int k, .int k' n => if h : k = k' then some ⟨n, by subst h; rfl⟩ else none
  | .bool, .bool b => some ⟨b, rfl⟩
  | .ptr, .pointer p => some ⟨p, rfl⟩
  | .sl, .slice p l c => some ⟨(p, l, c), rfl⟩
  | .str, .string s => some ⟨s, rfl⟩
  | .map, .map r => some ⟨r, rfl⟩
  | .any, v => some ⟨v, rfl⟩
  | _, _ => none
abbrev Live := List (Nat × Tag)
abbrev EW := Env → World → Prop
def Cur (β : Type) : Live → Type
  | [] => World → β
  | (_, g) :: r => g.T → Cur β r
def apJ : (l : Live) → Cur Prop l → EW
  | [], J => fun _ w => J w
  | (i, g) :: r, J => fun e w => match g.get (e i) with | some x => apJ r (J x.1) e w | none => False
def apN : (l : Live) → Cur Nat l → Env → World → Nat
  | [], J => fun _ w => J w
  | (i, g) :: r, J => fun e w => match g.get (e i) with | some x => apN r (J x.1) e w | none => 0
/-- At all values of the slots that live on. -/
def allL : (l : Live) → Cur Prop l → Cur Nat l → Env → (Env → World → Nat → Prop) → Prop
  | [], J, M, e, k => ∀ w : World, J w → k e w (M w)
  | (i, g) :: r, J, M, e, k => ∀ x : g.T, allL r (J x) (M x) (fun j => if j = i then g.v x else e j) k
def allJ : (l : Live) → Cur Prop l → Env → EW → Prop
  | [], J, e, k => ∀ w : World, J w → k e w
  | (i, g) :: r, J, e, k => ∀ x : g.T, allJ r (J x) (fun j => if j = i then g.v x else e j) k
/-- Where ways meet: the slots that live on of those that were written; all slots that may have been written. -/
structure Join where
  live : Live
  wr : List Nat
def base (W : List Nat) (e j : Env) : Env := fun i => if W.contains i then j i else e i
def joinVC (j : Option Join) (ws : List Nat) (e : Env) (f : EW → Prop) (k : EW) : Prop :=
  match j with
  | none => f k
  | some j => if ws.all (fun i => j.wr.contains i) then ∃ J : Cur Prop j.live, f (apJ j.live J) ∧ ∀ g : Env, allJ j.live J (base j.wr e g) k else False
/-- Elsewhere the slots are as they were. -/
def agr (ws : List Nat) (e e' : Env) : Prop := ∀ i, i ∉ ws → e' i = e i

theorem allJ_out : ∀ (l : Live) (J : Cur Prop l) (e e0 : Env) (k : EW) (w : World), allJ l J e k → apJ l J e0 w → (∀ i, (∀ g, (i, g) ∉ l) → e i = e0 i) → k e0 w := by
  intro l
  induction l with
  | nil =>
    intro J e e0 k w h hJ he
    have : e = e0 := funext fun i => he i (fun g => by simp)
    subst this
    exact h w hJ
  | cons x r ih =>
    obtain ⟨i, g⟩ := x
    intro J e e0 k w h hJ he
    simp only [apJ] at hJ
    split at hJ
    · rename_i y hy
      obtain ⟨x, hx⟩ := y
      refine ih (J x) _ e0 k w (h x) hJ fun j hj => ?_
      by_cases hji : j = i
      · subst hji; simp [hx]
      · simp only [hji, if_false]
        exact he j (fun g' hg => by
          cases hg with
          | head => exact hji rfl
          | tail _ hg => exact hj g' hg)
    · exact hJ.elim
theorem allL_out : ∀ (l : Live) (J : Cur Prop l) (M : Cur Nat l) (e e0 : Env) (k : Env → World → Nat → Prop) (w : World), allL l J M e k → apJ l J e0 w → (∀ i, (∀ g, (i, g) ∉ l) → e i = e0 i) → k e0 w (apN l M e0 w) := by
  intro l
  induction l with
  | nil =>
    intro J M e e0 k w h hJ he
    have : e = e0 := funext fun i => he i (fun g => by simp)
    subst this
    exact h w hJ
  | cons x r ih =>
    obtain ⟨i, g⟩ := x
    intro J M e e0 k w h hJ he
    simp only [apJ] at hJ
    simp only [apN]
    split at hJ
    · rename_i y hy
      obtain ⟨x, hx⟩ := y
      refine ih (J x) (M x) _ e0 k w (h x) hJ fun j hj => ?_
      by_cases hji : j = i
      · subst hji; simp [hx]
      · simp only [hji, if_false]
        exact he j (fun g' hg => by
          cases hg with
          | head => exact hji rfl
          | tail _ hg => exact hj g' hg)
    · exact hJ.elim
theorem joinVC_out {j : Option Join} {ws : List Nat} {e : Env} {f : EW → Prop} {k : EW} (h : joinVC j ws e f k) : ∃ k' : EW, f k' ∧ ∀ e' w, agr ws e e' → k' e' w → k e' w := by
  cases j with
  | none => exact ⟨k, h, fun _ _ _ h => h⟩
  | some j =>
    simp only [joinVC] at h
    split at h
    · rename_i hall
      obtain ⟨J, hf, hk⟩ := h
      refine ⟨_, hf, fun e' w ha hJ => allJ_out j.live J _ e' k w (hk e') hJ fun i _ => ?_⟩
      unfold base
      split
      · rfl
      · rename_i hi
        refine (ha i fun hw => hi ?_).symm
        have := List.all_eq_true.1 hall i hw
        exact this
    · exact h.elim

/-! ### A region in the text's order -/
def yv (ops : Array Oper) (e : Env) (j : Nat) : Option Bool :=
  match (ops[j]?).bind (·.dst) with
  | some d => (match e d with | .bool b => some b | _ => none)
  | none => none
def vcOps (P : Program) (n : Nat) (ops : Array Oper) : List Oper → List (Nat × Bool) → Env → World → EW → Prop
  | [], _, e, w, K => K e w
  | o :: r, dec, e, w, K =>
    match o.guard with
    | none => vcOp P o e w fun v w' => vcOps P n ops r dec (put n e o.dst v) w' K
    | some (j, want) =>
      match dec.lookup j with
      | some c => if c = want then vcOp P o e w fun v w' => vcOps P n ops r dec (put n e o.dst v) w' K else vcOps P n ops r dec (put n e o.dst undef) w K
      | none =>
        match yv ops e j with
        | some b =>
          if (o :: r).all (fun o' => !(o'.dst == (ops[j]?).bind (·.dst))) = false then False else
          if b = want then vcOp P o (put n e ((ops[j]?).bind (·.dst)) (.bool want)) w fun v w' => vcOps P n ops r ((j, want) :: dec) (put n (put n e ((ops[j]?).bind (·.dst)) (.bool want)) o.dst v) w' K
          else vcOps P n ops r ((j, !want) :: dec) (put n (put n e ((ops[j]?).bind (·.dst)) (.bool !want)) o.dst undef) w K
        | none => vcOps P n ops r dec (put n e o.dst undef) w K

theorem yv_fits {n : Nat} {a : Act} {e : Env} (h : Fits n a e) (ops : Array Oper) (j : Nat) : yielded ops a.tmps j = yv ops e j := by
  unfold yielded yv
  cases hd : (ops[j]?).bind (·.dst) with
  | none => rfl
  | some d =>
    simp only [Option.bind_some]
    have hs := h.slot d
    by_cases hlt : d < a.tmps.size
    · have : a.tmps[d]? = some (e d) := by
        rw [Array.getElem?_eq_getElem hlt, ← hs]
        simp [Array.getD, hlt]
      rw [this]
      cases e d <;> rfl
    · have : e d = undef := by rw [← hs]; simp [Array.getD, hlt]
      rw [Array.getElem?_eq_none (Nat.le_of_not_lt hlt), this]
      rfl
theorem put_same {n : Nat} {e : Env} {ops : Array Oper} {j : Nat} {b : Bool} (h : yv ops e j = some b) : put n e ((ops[j]?).bind (·.dst)) (.bool b) = e := by
  unfold yv at h
  cases hd : (ops[j]?).bind (·.dst) with
  | none => simp [hd] at h
  | some d =>
    simp only [hd] at h
    unfold put
    simp only
    split
    · funext i
      by_cases hi : i = d
      · subst hi
        simp only [if_true]
        cases he : e i <;> simp_all
      · simp [hi]
    · rfl
theorem vcOps_wp {P : Program} {n : Nat} {ops : Array Oper} {Q : Exit → Act → World → Prop} : ∀ (l : List Oper) (dec : List (Nat × Bool)) (a : Act) (e : Env) (w : World) (K : EW), Fits n a e →
    vcOps P n ops l dec e w K → (∀ j c, dec.lookup j = some c → ∀ d, (ops[j]?).bind (·.dst) = some d → ∀ o ∈ l, o.dst ≠ some d) → (∀ j c, dec.lookup j = some c → yv ops e j = some c) →
    (∀ a e' w, Fits n a e' → agr (l.filterMap (·.dst)) e e' → K e' w → Q .normal a w) → wpList P ops Q l a w := by
  intro l
  induction l with
  | nil => intro dec a e w K hf h _ _ hK; exact hK a e w hf (fun _ _ => rfl) h
  | cons o r ih =>
    intro dec a e w K hf h hdec hyv hK
    have hrest : ∀ {dec' : List (Nat × Bool)}, (∀ j c, dec'.lookup j = some c → ∀ d, (ops[j]?).bind (·.dst) = some d → ∀ o' ∈ o :: r, o'.dst ≠ some d) → (∀ j c, dec'.lookup j = some c → yv ops e j = some c) → ∀ v w', vcOps P n ops r dec' (put n e o.dst v) w' K → wpList P ops Q r (a.put o.dst v) w' := by
      intro dec' hd hy v w' hv
      have hyy : ∀ j c, dec'.lookup j = some c → yv ops (put n e o.dst v) j = some c := fun j c hl => by
        have h1 := hy j c hl
        unfold yv at h1 ⊢
        cases hjd : (ops[j]?).bind (·.dst) with
        | none => simp [hjd] at h1
        | some d =>
          simp only [hjd] at h1 ⊢
          have hne := hd j c hl d hjd o (by simp)
          have : put n e o.dst v d = e d := by
            unfold put
            cases hod : o.dst with
            | none => rfl
            | some d' =>
              have : d ≠ d' := fun h => hne (by rw [hod, h])
              simp only
              split <;> simp [this]
          rw [this]
          exact h1
      refine ih dec' _ _ w' K (hf.put _ _) hv (fun j c hl d hjd o' ho' => hd j c hl d hjd o' (List.mem_cons_of_mem _ ho')) hyy (fun a e' w hf ha hk => hK a e' w hf (fun i hi => ?_) hk)
      rw [ha i fun h => hi ?_]
      · unfold put
        cases hod : o.dst with
        | none => rfl
        | some d' =>
          have : i ≠ d' := fun e => hi (List.mem_filterMap.2 ⟨o, by simp, by rw [hod, e]⟩)
          simp only
          split <;> simp [this]
      · obtain ⟨o', ho', hd'⟩ := List.mem_filterMap.1 h
        exact List.mem_filterMap.2 ⟨o', List.mem_cons_of_mem _ ho', hd'⟩
    have hrun : ∀ {dec' : List (Nat × Bool)}, (∀ j c, dec'.lookup j = some c → ∀ d, (ops[j]?).bind (·.dst) = some d → ∀ o' ∈ o :: r, o'.dst ≠ some d) → (∀ j c, dec'.lookup j = some c → yv ops e j = some c) →
        Region.wanted o (yielded ops a.tmps) = true → (vcOp P o e w fun v w' => vcOps P n ops r dec' (put n e o.dst v) w' K) → wpList P ops Q (o :: r) a w := by
      intro dec' hd hy hw hv
      unfold wpList
      rw [if_pos hw]
      exact .inl (vcOp_wp (by rw [hf.ev]) hv fun v w' hv' => hrest hd hy v w' hv')
    have hskip : ∀ {dec' : List (Nat × Bool)}, (∀ j c, dec'.lookup j = some c → ∀ d, (ops[j]?).bind (·.dst) = some d → ∀ o' ∈ o :: r, o'.dst ≠ some d) → (∀ j c, dec'.lookup j = some c → yv ops e j = some c) →
        Region.wanted o (yielded ops a.tmps) = false → vcOps P n ops r dec' (put n e o.dst undef) w K → wpList P ops Q (o :: r) a w := by
      intro dec' hd hy hw hv
      unfold wpList
      rw [if_neg (by rw [hw]; simp)]
      exact hrest hd hy _ _ hv
    unfold vcOps at h
    split at h
    · rename_i hg
      exact hrun hdec hyv (by simp [Region.wanted, hg]) h
    · rename_i j want hg
      have hwant : Region.wanted o (yielded ops a.tmps) = (yv ops e j == some want) := by simp only [Region.wanted, hg, yv_fits hf]
      split at h
      · rename_i c hl
        have hc := hyv j c hl
        split at h
        · rename_i hcw
          exact hrun hdec hyv (by rw [hwant, hc, hcw]; simp) h
        · rename_i hcw
          exact hskip hdec hyv (by rw [hwant, hc]; simp [hcw]) h
      · rename_i hl
        split at h
        · rename_i b hb
          split at h
          · exact h.elim
          · rename_i hall
            have hall' : ∀ o' ∈ o :: r, ¬ o'.dst = (ops[j]?).bind (·.dst) := by simpa using hall
            have hd' : ∀ (c : Bool) (i : Nat) (c' : Bool), ((j, c) :: dec).lookup i = some c' → ∀ d, (ops[i]?).bind (·.dst) = some d → ∀ o' ∈ o :: r, o'.dst ≠ some d := fun c i c' hi d hid o' ho' => by
              by_cases hij : i = j
              · subst hij
                rw [← hid]
                exact hall' o' ho'
              · rw [List.lookup_cons, show (i == j) = false by simpa using hij] at hi
                exact hdec i c' hi d hid o' ho'
            have hy' : ∀ (c : Bool), yv ops e j = some c → ∀ (i : Nat) (c' : Bool), ((j, c) :: dec).lookup i = some c' → yv ops e i = some c' := fun c hc i c' hi => by
              by_cases hij : i = j
              · subst hij
                rw [List.lookup_cons, show (i == i) = true by simp] at hi
                cases hi
                exact hc
              · rw [List.lookup_cons, show (i == j) = false by simpa using hij] at hi
                exact hyv i c' hi
            split at h
            · rename_i hbw
              subst hbw
              rw [put_same hb] at h
              exact hrun (hd' b) (hy' b hb) (by rw [hwant, hb]; simp) h
            · rename_i hbw
              have hbn : b = !want := by cases b <;> cases want <;> simp_all
              subst hbn
              rw [put_same hb] at h
              exact hskip (hd' _) (hy' _ hb) (by rw [hwant, hb]; simp) h
        · rename_i hb
          exact hskip hdec hyv (by rw [hwant, hb]; simp) h

/-! ### Structured code -/
inductive Ann where
  | leaf
  | seq (a b : Ann)
  | cond (j : Option Join) (a b : Ann)
  | block (j : Option Join) (a : Ann)
  | loop (l : Live) (wr : List Nat) (a : Ann)
  | reg (j : Option Join)
def wr : Code → List Nat
  | .seq a b => wr a ++ wr b
  | .region _ ops _ => ops.toList.filterMap (·.dst)
  | .cond _ a b => wr a ++ wr b
  | .block _ a => wr a
  | .loop a => wr a
  | _ => []
theorem agr.refl {ws : List Nat} {e : Env} : agr ws e e := fun _ _ => rfl
theorem agr.trans {ws : List Nat} {a b c : Env} (h : agr ws a b) (k : agr ws b c) : agr ws a c := fun i hi => (k i hi).trans (h i hi)
theorem agr.mono {ws ws' : List Nat} {a b : Env} (h : agr ws a b) (k : ∀ i ∈ ws, i ∈ ws') : agr ws' a b := fun i hi => h i fun h => hi (k i h)

def vcCode (P : Program) (n : Nat) (D : Array Oper → Env → World → EW → Prop) : Code → Ann → Env → World → EW → (Nat → EW) → EW → Prop
  | .skip, _, e, w, k, _, _ => k e w
  | .exit i, _, e, w, _, x, _ => x i e w
  | .ret, _, e, w, _, _, r => r e w
  | .seq a b, .seq p q, e, w, k, x, r => vcCode P n D a p e w (fun e w => vcCode P n D b q e w k x r) x r
  | .region _ ops false, .reg j, e, w, k, _, _ => joinVC j (ops.toList.filterMap (·.dst)) e (fun K => vcOps P n ops ops.toList [] e w K) k
  | .region _ ops true, .reg j, e, w, k, _, _ => joinVC j (ops.toList.filterMap (·.dst)) e (fun K => D ops e w K) k
  | .cond c a b, .cond j p q, e, w, k, x, r =>
    match ev e c with
    | .bool t => joinVC j (wr a ++ wr b) e (fun K => if t = true then vcCode P n D a p e w K x r else vcCode P n D b q e w K x r) k
    | _ => False
  | .block id a, .block j p, e, w, k, x, r => joinVC j (wr a) e (fun K => vcCode P n D a p e w K (fun i => if i = id then K else x i) r) k
  | .loop a, .loop l W p, e, w, _, x, r =>
    if (wr a).all (fun i => W.contains i) then
    ∃ (I : Cur Prop l) (M : Cur Nat l), apJ l I e w ∧ ∀ g : Env, allL l I M (base W e g) fun e w m => vcCode P n D a p e w (fun e' w' => apJ l I e' w' ∧ apN l M e' w' < m) x r
    else False
  | _, _, _, _, _, _, _ => False

theorem vcCode_wp {P : Program} {n : Nat} {D : Array Oper → Env → World → EW → Prop}
    (hD : ∀ (id : Nat) (ops : Array Oper) a e w (K : EW) (Q : Exit → Act → World → Prop), Fits n a e → D ops e w K → (∀ a e' w, Fits n a e' → agr (ops.toList.filterMap (·.dst)) e e' → K e' w → Q .normal a w) → (Code.region id ops true).wp P Q a w) :
    ∀ (c : Code) (p : Ann) (e : Env) (w : World) (k : EW) (x : Nat → EW) (r : EW) (a : Act) (Q : Exit → Act → World → Prop), Fits n a e → vcCode P n D c p e w k x r →
    (∀ a e' w, Fits n a e' → agr (wr c) e e' → k e' w → Q .normal a w) → (∀ i a e' w, Fits n a e' → agr (wr c) e e' → x i e' w → Q (.exit i) a w) → (∀ a e' w, Fits n a e' → agr (wr c) e e' → r e' w → Q .ret a w) → c.wp P Q a w := by
  intro c
  induction c with
  | skip => intro p e w k x r a Q hf h hk _ _; exact wp_skip (hk _ _ _ hf agr.refl (by cases p <;> exact h))
  | exit i => intro p e w k x r a Q hf h _ hx _; exact wp_exit (hx _ _ _ _ hf agr.refl (by cases p <;> exact h))
  | ret => intro p e w k x r a Q hf h _ _ hr; exact wp_ret (hr _ _ _ hf agr.refl (by cases p <;> exact h))
  | seq c1 c2 ih1 ih2 =>
    intro p e w k x r a Q hf h hk hx hr
    have l1 : ∀ i ∈ wr c1, i ∈ wr (.seq c1 c2) := fun i hi => List.mem_append_left _ hi
    have l2 : ∀ i ∈ wr c2, i ∈ wr (.seq c1 c2) := fun i hi => List.mem_append_right _ hi
    cases p with
    | seq p q =>
      refine wp_seq (ih1 p e w _ x r a _ hf h (fun a e' w hf h1 h => ?_) (fun i a e w hf h1 h => hx i a e w hf (h1.mono l1) h) (fun a e w hf h1 h => hr a e w hf (h1.mono l1) h))
      exact ih2 q e' w k x r a Q hf h (fun a e w hf h2 h => hk a e w hf ((h1.mono l1).trans (h2.mono l2)) h) (fun i a e w hf h2 h => hx i a e w hf ((h1.mono l1).trans (h2.mono l2)) h) (fun a e w hf h2 h => hr a e w hf ((h1.mono l1).trans (h2.mono l2)) h)
    | _ => exact h.elim
  | region id ops dr =>
    intro p e w k x r a Q hf h hk _ _
    cases p with
    | reg j =>
      cases dr with
      | false =>
        obtain ⟨k', h, hk'⟩ := joinVC_out (show joinVC j (ops.toList.filterMap (·.dst)) e (fun K => vcOps P n ops ops.toList [] e w K) k from h)
        exact wp_region_list (vcOps_wp _ [] a e w k' hf h (by simp) (by simp) fun a e' w hf ha hk'' => hk a e' w hf ha (hk' _ _ ha hk''))
      | true =>
        obtain ⟨k', h, hk'⟩ := joinVC_out (show joinVC j (ops.toList.filterMap (·.dst)) e (fun K => D ops e w K) k from h)
        exact hD id ops a e w k' Q hf h fun a e' w hf ha hk'' => hk a e' w hf ha (hk' _ _ ha hk'')
    | _ => cases dr <;> exact h.elim
  | cond c c1 c2 ih1 ih2 =>
    intro p e w k x r a Q hf h hk hx hr
    have l1 : ∀ i ∈ wr c1, i ∈ wr (.cond c c1 c2) := fun i hi => List.mem_append_left _ hi
    have l2 : ∀ i ∈ wr c2, i ∈ wr (.cond c c1 c2) := fun i hi => List.mem_append_right _ hi
    cases p with
    | cond j p q =>
      simp only [vcCode] at h
      split at h
      · rename_i t ht
        obtain ⟨k', h, hk'⟩ := joinVC_out h
        refine wp_cond (t := t) (by rw [hf.ev]; exact ht) ?_
        cases t with
        | true => exact ih1 p e w k' x r a Q hf (by simpa using h) (fun a e w hf ha h => hk a e w hf (ha.mono l1) (hk' _ _ (ha.mono l1) h)) (fun i a e w hf ha h => hx i a e w hf (ha.mono l1) h) (fun a e w hf ha h => hr a e w hf (ha.mono l1) h)
        | false => exact ih2 q e w k' x r a Q hf (by simpa using h) (fun a e w hf ha h => hk a e w hf (ha.mono l2) (hk' _ _ (ha.mono l2) h)) (fun i a e w hf ha h => hx i a e w hf (ha.mono l2) h) (fun a e w hf ha h => hr a e w hf (ha.mono l2) h)
      · exact h.elim
    | _ => exact h.elim
  | block id c ih =>
    intro p e w k x r a Q hf h hk hx hr
    cases p with
    | block j p =>
      obtain ⟨k', h, hk'⟩ := joinVC_out (show joinVC j (wr c) e (fun K => vcCode P n D c p e w K (fun i => if i = id then K else x i) r) k from h)
      refine wp_block (ih p e w k' _ r a _ hf h (fun a e w hf ha h => hk a e w hf ha (hk' _ _ ha h)) (fun i a e w hf ha h => ?_) (fun a e w hf ha h => hr a e w hf ha h))
      simp only [Exit.inBlock]
      by_cases hi : i = id
      · rw [if_pos hi] at h ⊢
        exact hk a e w hf ha (hk' _ _ ha h)
      · rw [if_neg hi] at h ⊢
        exact hx i a e w hf ha h
    | _ => exact h.elim
  | loop c ih =>
    intro p e w k x r a Q hf h hk hx hr
    cases p with
    | loop l W p =>
      simp only [vcCode] at h
      split at h
      · rename_i hall
        obtain ⟨I, M, h0, h⟩ := h
        refine wp_loop (fun a w => ∃ e', Fits n a e' ∧ agr (wr c) e e' ∧ apJ l I e' w) (fun a w => apN l M (fun i => a.tmps.getD i undef) w) ⟨e, hf, agr.refl, h0⟩ fun a w ⟨e1, hf, ha, hI⟩ => ?_
        have henv : ∀ {a : Act} {e : Env}, Fits n a e → (fun i => a.tmps.getD i undef) = e := fun hf => funext hf.slot
        have h1 := allL_out l I M _ e1 _ w (h e1) hI fun i _ => by
          unfold base
          split
          · rfl
          · rename_i hi
            refine (ha i fun hw => hi ?_).symm
            exact List.all_eq_true.1 hall i hw
        refine ih p e1 w _ x r a _ hf h1 (fun a' e' w' hf' ha' h' => ?_) (fun i a e w hf ha' h => hx i a e w hf (ha.trans ha') h) (fun a e w hf ha' h => hr a e w hf (ha.trans ha') h)
        simp only [Exit.then]
        refine ⟨⟨e', hf', ha.trans ha', h'.1⟩, ?_⟩
        rw [henv hf', henv hf]
        exact h'.2
      · exact h.elim
    | _ => exact h.elim
  | rangeFunc f ps s b ihs ihb => intro p e w k x r a Q hf h; cases p <;> exact h.elim
  | scope c ih => intro p e w k x r a Q hf h; cases p <;> exact h.elim
  | label l => intro p e w k x r a Q hf h; cases p <;> exact h.elim
  | goto l => intro p e w k x r a Q hf h; cases p <;> exact h.elim
  | refuse y => intro p e w k x r a Q hf h; cases p <;> exact h.elim

/-! ### A whole function -/
def retOne (P : Program) (r : ResultVar) (e : Env) (w : World) (K : Value → Prop) : Prop :=
  match r with
  | .tmp t => K (e t)
  | .cell a t => match e a with | .pointer (some ad) => ldEx P t ad w K | _ => False
def retVC (P : Program) : List ResultVar → List Value → Env → World → (Value → Prop) → Prop
  | [], [v], _, _, K => K v
  | [], acc, _, _, K => K (.tuple acc.reverse.toArray)
  | r :: rs, acc, e, w, K => retOne P r e w fun v => retVC P rs (v :: acc) e w K
def env0 (args : List Value) : Env := fun i => args.getD i undef

theorem retVC_run {P : Program} {tmps : Array Value} {e : Env} {w : World} (hs : ∀ i, tmps.getD i undef = e i) : ∀ (rs : List ResultVar) (acc : List Value) (K : Value → Prop), retVC P rs acc e w K →
    ∃ vs : List Value, (rs.mapM fun (r : ResultVar) => (match r with | .tmp t => pure (tmps.getD t undef) | .cell a t => do loadVar t (← asAddr (tmps.getD a undef)) : Sem Value)).run P w = .ok vs w ∧
      K (match acc.reverse ++ vs with | [v] => v | l => .tuple l.toArray) := by
  intro rs
  induction rs with
  | nil =>
    intro acc K h
    refine ⟨[], rfl, ?_⟩
    rw [List.append_nil]
    match acc, h with
    | [], h => exact h
    | [v], h => exact h
    | v :: v2 :: r, h =>
      have h : K (.tuple (v :: v2 :: r).reverse.toArray) := h
      split
      · rename_i x hx
        have := congrArg List.length hx
        simp at this
      · exact h
  | cons r rs ih =>
    intro acc K h
    simp only [retVC] at h
    have : ∃ v, (match r with | .tmp t => pure (tmps.getD t undef) | .cell a t => do loadVar t (← asAddr (tmps.getD a undef)) : Sem Value).run P w = .ok v w ∧ retVC P rs (v :: acc) e w K := by
      unfold retOne at h
      split at h
      · rename_i t
        exact ⟨e t, by simp only [hs]; rfl, h⟩
      · rename_i a t
        split at h
        · rename_i ad hv
          obtain ⟨v, hr, hK⟩ := ldEx_run h
          refine ⟨v, ?_, hK⟩
          simp only [hs, hv]
          simp [asAddr, hr]
        · exact h.elim
    obtain ⟨v, hr, h⟩ := this
    obtain ⟨vs, hm, hK⟩ := ih _ _ h
    refine ⟨v :: vs, ?_, by simpa using hK⟩
    rw [List.mapM_cons]
    simp only [Sem.run_bind, hr, Result.andThen_ok, hm, Sem.run_pure]
theorem calls_of_vc {P : Program} {f : FuncId} {fn : Func} {c : Code} {args : List Value} {w : World} {R : Ending → World → Prop} {p : Ann} {D : Array Oper → Env → World → EW → Prop}
    (hD : ∀ (id : Nat) (ops : Array Oper) a e w (K : EW) (Q : Exit → Act → World → Prop), Fits fn.ntmps a e → D ops e w K → (∀ a e' w, Fits fn.ntmps a e' → agr (ops.toList.filterMap (·.dst)) e e' → K e' w → Q .normal a w) → (Code.region id ops true).wp P Q a w)
    (hf : P.funcs[f]? = some fn) (hb : fn.body = some c) (hn : args.length ≤ fn.ntmps)
    (h : vcCode P fn.ntmps D c p (env0 args) w (fun e w => retVC P fn.results.toList [] e w fun v => R (.returned v) w) (fun _ _ _ => False) (fun e w => retVC P fn.results.toList [] e w fun v => R (.returned v) w)) :
    Calls P f args.toArray w R := by
  refine calls_of_wp hf hb ?_
  have hres : ∀ (a : Act) (e : Env) (w : World), Fits fn.ntmps a e → (retVC P fn.results.toList [] e w fun v => R (.returned v) w) → a.defers = [] ∧ ∃ v, (results fn a.tmps).run P w = .ok v w ∧ R (.returned v) w := fun a e w hf h => by
    obtain ⟨vs, hr, hR⟩ := retVC_run hf.slot _ _ _ h
    refine ⟨hf.defers, _, ?_, hR⟩
    have hm : (fn.results.mapM fun (r : ResultVar) => (match r with | .tmp t => pure (a.tmps.getD t undef) | .cell x t => do loadVar t (← asAddr (a.tmps.getD x undef)) : Sem Value)).run P w = .ok vs.toArray w := by
      rw [Array.mapM_eq_mapM_toList]
      simp only [Sem.run_map]
      rw [hr]
      rfl
    simp only [results, Sem.run_bind]
    refine (congrArg (fun r => Result.andThen r fun (a : Array Value) w' => Sem.run P (pure (if h : a.size = 1 then a[0] else Value.tuple a)) w') (show _ = Result.ok vs.toArray w from hm)).trans ?_
    simp only [Result.andThen_ok, Sem.run_pure]
    clear hm hr hR
    match vs with
    | [] => rfl
    | [v] => rfl
    | v :: v2 :: r => rfl
  refine vcCode_wp hD c p _ w _ _ _ _ _ ⟨by simp; omega, rfl, fun i => ?_⟩ h (fun a e w hf _ h => hres a e w hf h) (fun _ _ _ _ _ _ h => h.elim) (fun a e w hf _ h => hres a e w hf h)
  simp only [env0, Array.getD_eq_getD_getElem?, Array.getElem?_append, List.size_toArray, List.getElem?_toArray, List.getD_eq_getElem?_getD]
  split
  · rfl
  · rename_i hlt
    rw [List.getElem?_eq_none (by omega)]
    simp [Array.getElem?_replicate]
    split <;> rfl
end Go.Sk
