/- Own ground: a region that draws its order: what its text's order asks, and what is asked beside, suffices for any order. -/
import Derived.Test.YtnkdccidhjifmaaGreatVe
import Derived.Orders
set_option linter.unusedVariables false
set_option linter.unusedSimpArgs false
namespace Go.Sk
open Go.RowKit

theorem Still.listMapM {α β : Type} {P : Program} {f : α → Sem β} (h : ∀ a, Still P (f a)) : ∀ l : List α, Still P (l.mapM f) := by
  intro l
  induction l with
  | nil => exact Still.pure _
  | cons a l ih =>
    rw [List.mapM_cons]
    exact Still.bind (h a) fun _ => Still.bind ih fun _ => Still.pure _
theorem Still.arrMapM {α β : Type} {P : Program} {f : α → Sem β} (h : ∀ a, Still P (f a)) {xs : Array α} : Still P (xs.mapM f) := by
  rw [Array.mapM_eq_mapM_toList]
  exact Still.map (Still.listMapM h _)
theorem Still.getObj {P : Program} (r : Nat) : Still P (Go.getObj r) := fun w x w' h => by
  simp only [Go.getObj, Sem.run] at h
  split at h <;> cases h
  rfl
theorem Still.len {P : Program} (ats : Array TypeId) (t : TypeId) (args : Array Value) : Still P (Builtin.len_ ats t args) := by
  unfold Builtin.len_
  split
  · refine Still.bind (Still.underlying _) fun d => ?_
    split <;> first | exact Still.pure _ | exact Still.stuck _ | skip
    · refine Still.bind (Still.underlying _) fun d => ?_
      split <;> first | exact Still.pure _ | exact Still.stuck _
    · refine Still.bind (Still.getObj _) fun d => ?_
      split <;> first | exact Still.pure _ | exact Still.stuck _
    · refine Still.bind (Still.getObj _) fun d => ?_
      split <;> first | exact Still.pure _ | exact Still.stuck _
  · exact Still.stuck _
/-- Does an operation leave the world as it is? -/
def readB (P : Program) (o : Oper) : Bool :=
  match o.op with
  | .move _ | .assign _ | .pick _ _ _ | .load _ _ | .extract _ _ | .field _ _ _ | .makeInterface _ _ | .makeFunc _ _ _ | .unOp _ _ _ | .indexAddr _ _ _ | .build _ _ => true
  | .fieldAddr _ _ _ => true
  | .nilCheck _ => true
  | .binOp _ _ _ _ _ => true
  | .convert src dst _ => (match P.underlying src, P.underlying dst with | some (.int _), some (.int _) => true | _, _ => false)
  | .call c => (match c.callee with | .builtin .len => (match c.argTypes[0]? with | some t => (match P.underlying t with | some (.slice _) => true | some .string => true | _ => false) | none => false) | _ => false)
  | _ => false

/-- What a reading operation gives. -/
theorem vcOp_read {P : Program} {o : Oper} {e : Env} {w : World} {K : Value → World → Prop} (hr : readB P o = true) (h : vcOp P o e w K) : ∃ v, (execOp (ev e) o).run P w = .ok (.value v) w ∧ K v w := by
  obtain ⟨dst, op, type, pos, after, guard⟩ := o
  have fin : ∀ {s : Sem Value}, Still P s → (∃ v w', s.run P w = .ok v w' ∧ K v w') → ∃ v, (do Pure.pure (Next.value (← s)) : Sem Next).run P w = .ok (.value v) w ∧ K v w := fun hs ⟨v, w', hr, hK⟩ => by
    have := hs _ _ _ hr
    subst this
    exact ⟨v, by simp [hr], hK⟩
  have dflt : ∀ {s : Sem Next}, Still P s → (vc P s (fun r w' => match r with | .value v => K v w' | _ => False) w) → ∃ v, s.run P w = .ok (.value v) w ∧ K v w := fun hs h => by
    obtain ⟨r, w', hr', hK⟩ := vc_run _ h
    have := hs _ _ _ hr'
    subst this
    cases r <;> first | exact hK.elim | exact ⟨_, hr', hK⟩
  unfold readB at hr
  unfold vcOp at h
  cases op
  case move x => exact ⟨_, by simp [execOp], h⟩
  case assign x => exact ⟨_, by simp [execOp], h⟩
  case pick c a b =>
    obtain ⟨r, w', hr', hK⟩ := vc_run _ h
    have hs : Still P (execOp (ev e) { dst := dst, op := .pick c a b, type := type, pos := pos, after := after, guard := guard }) := by
      simp only [execOp]
      refine Still.bind ?_ fun _ => ?_
      · unfold asBool; split
        · exact Still.pure _
        · exact Still.stuck _
      · split <;> exact Still.pure _
    have := hs _ _ _ hr'
    subst this
    cases r <;> first | exact hK.elim | exact ⟨_, hr', hK⟩
  case load t a =>
    simp only at h
    split at h
    · rename_i ad hv
      obtain ⟨v, hr, hK⟩ := ldEx_run h
      exact ⟨v, by simp [execOp, hv, Instr.loadAt, Instr.sureAddr, hr], hK⟩
    · exact h.elim
  case nilCheck x =>
    simp only at h
    split at h
    · rename_i p hv
      cases p with
      | none => exact h.elim
      | some ad => exact ⟨_, by simp [execOp, hv], h⟩
    · exact h.elim
    · exact h.elim
    · rename_i hv
      exact ⟨_, by simp [execOp, hv], h⟩
    · exact h.elim
    · rename_i hv
      exact ⟨_, by simp [execOp, hv], h⟩
    · exact h.elim
  case indexAddr T x i =>
    obtain ⟨v, hr, hK⟩ := indexVC_run h
    exact ⟨v, by simp only [execOp, Sem.run_bind, hr, Result.andThen_ok, Sem.run_pure], hK⟩
  case fieldAddr T x f =>
    obtain ⟨v, hr, hK⟩ := fieldVC_run h
    exact ⟨v, by simp only [execOp, Sem.run_bind, hr, Result.andThen_ok, Sem.run_pure], hK⟩
  case binOp op T x y yt =>
    obtain ⟨v, hr', hK⟩ := binVC_run h (fun v hv => by subst hv; rfl)
    refine ⟨v, ?_, hK⟩
    simp only [execOp, Sem.run_bind] at hr' ⊢
    rw [hr']
    rfl
  case unOp op t x =>
    refine dflt ?_ h
    simp only [execOp]
    refine Still.bind ?_ fun _ => Still.pure _
    unfold Op.unary
    split <;> first | exact Still.pure _ | exact Still.unsupported _ | exact Still.stuck _ | (unfold Op.intBits; dsimp only; split <;> first | exact Still.pure _ | exact Still.stuck _)
  case convert src dst x =>
    simp only at hr h
    split at hr
    · rename_i h1 h2
      obtain ⟨v, hr, hK⟩ := convVC_read h1 h2 h
      exact ⟨v, by simp only [execOp, Sem.run_bind, hr, Result.andThen_ok, Sem.run_pure], hK⟩
    · exact absurd hr (by simp)
  case makeInterface t x =>
    refine dflt ?_ h
    simp only [execOp]
    refine Still.bind ?_ fun _ => Still.pure _
    unfold Instr.makeInterface
    refine Still.bind (Still.underlying _) fun d => ?_
    split
    · exact Still.stuck _
    · exact Still.pure _
  case makeFunc f a b =>
    refine dflt ?_ h
    simp only [execOp]
    exact Still.bind (Still.pure _) fun _ => Still.pure _
  case field T x f =>
    refine dflt ?_ h
    simp only [execOp]
    refine Still.bind ?_ fun _ => Still.pure _
    unfold Instr.field
    refine Still.bind (Still.underlying _) fun d => ?_
    split
    · split
      · refine Still.bind ?_ fun _ => Still.part _ _ _
        unfold asAgg; split
        · exact Still.pure _
        · exact Still.stuck _
      · exact Still.stuck _
    · exact Still.stuck _
  case extract x i =>
    refine dflt ?_ h
    simp only [execOp]
    refine Still.bind ?_ fun _ => Still.pure _
    unfold Instr.extract
    split
    · split
      · exact Still.pure _
      · exact Still.stuck _
    · exact Still.stuck _
  case build t ps =>
    refine dflt ?_ h
    simp only [execOp]
    refine Still.bind ?_ fun _ => Still.pure _
    unfold Instr.build
    refine Still.bind (Still.zeroValue _) fun z => ?_
    dsimp only
    refine Still.bind (Still.underlying _) fun d => ?_
    split
    · refine Still.bind (Still.arrMapM fun f => Still.bind (Still.sizeOf _) fun _ => Still.pure _) fun pl => ?_
      split
      · exact Still.pure _
      · exact Still.stuck _
    · refine Still.bind (Still.sizeOf _) fun n => ?_
      split
      · exact Still.pure _
      · exact Still.stuck _
    · exact Still.stuck _
  case call c =>
    simp only at hr h
    split at hr
    · rename_i hc
      rw [hc] at h
      simp only at h
      obtain ⟨v, w', hr', hK⟩ := builtinVC_run (cs := c.args.map fun | .const _ => true | _ => false) h
      have hs : Still P (Builtin.len_ c.argTypes type (c.args.toList.map (ev e)).toArray) := Still.len _ _ _
      have hw : w' = w := by
        simp only [builtin, Sem.run_bind] at hr'
        cases hl : (Builtin.len_ c.argTypes type (c.args.toList.map (ev e)).toArray).run P w with
        | halt x y => rw [hl] at hr'; cases hr'
        | ok x y =>
          rw [hl] at hr'
          have := hs _ _ _ hl
          subst this
          cases hr'
          rfl
      subst hw
      refine ⟨v, ?_, hK⟩
      simp only [execOp, resolve, hc, Sem.run_bind, Sem.run_pure, Result.andThen_ok, invoke]
      rw [show c.args.map (ev e) = (c.args.toList.map (ev e)).toArray from by apply Array.toList_inj.1; simp]
      exact hr'
    · exact absurd hr (by simp)
  all_goals exact absurd hr (by simp)

/-! ### Which operation comes before which -/
def force {α : Type} (n : Nat) (k : Nat → α) : α := match n with | 0 => k 0 | m + 1 => k (m + 1)
theorem force_eq {α : Type} (n : Nat) (k : Nat → α) : force n k = k n := by cases n <;> rfl
def ancOne (acc : List Nat) (o : Oper) : Nat := o.after.toList.foldl (fun s e => if Region.binds .any e then s ||| 2 ^ e.on ||| acc.getD e.on 0 else s) 0
def ancL : List Oper → List Nat → List Nat
  | [], acc => acc
  | o :: r, acc => force (ancOne acc o) fun x => ancL r (acc ++ [x])
def bf (A : List Nat) (i j : Nat) : Bool := (A.getD j 0).testBit i

theorem anc_fold (acc : List Nat) (k : Nat) : ∀ (l : List Edge) (s : Nat), (l.foldl (fun s e => if Region.binds .any e then s ||| 2 ^ e.on ||| acc.getD e.on 0 else s) s).testBit k = true →
    s.testBit k = true ∨ ∃ e ∈ l, Region.binds .any e = true ∧ (k = e.on ∨ (acc.getD e.on 0).testBit k = true) := by
  intro l
  induction l with
  | nil => intro s h; exact .inl h
  | cons e l ih =>
    intro s h
    rw [List.foldl_cons] at h
    rcases ih _ h with h | ⟨e', he', hb, h⟩
    · split at h
      · rename_i hb
        rw [Nat.testBit_or, Nat.testBit_or, Bool.or_eq_true, Bool.or_eq_true] at h
        rcases h with (h | h) | h
        · exact .inl h
        · refine .inr ⟨e, by simp, hb, .inl ?_⟩
          rw [Nat.testBit_two_pow] at h
          exact (of_decide_eq_true h).symm
        · exact .inr ⟨e, by simp, hb, .inr h⟩
      · exact .inl h
    · exact .inr ⟨e', List.mem_cons_of_mem _ he', hb, h⟩
/-- Closed under the edges: closed under what comes before. -/
theorem anc_closed {ops : Array Oper} {S : Nat → Prop} : ∀ (l : List Oper) (acc : List Nat), (∀ j, l[j]? = ops[acc.length + j]?) →
    (∀ j, j < acc.length → (∀ o, ops[j]? = some o → ∀ e ∈ o.after, Region.binds .any e = true → S e.on) → ∀ k, (acc.getD j 0).testBit k = true → (∀ i, S i → ∀ o, ops[i]? = some o → ∀ e ∈ o.after, Region.binds .any e = true → S e.on) → S k) →
    ∀ j, (∀ o, ops[j]? = some o → ∀ e ∈ o.after, Region.binds .any e = true → S e.on) → ∀ k, bf (ancL l acc) k j = true → (∀ i, S i → ∀ o, ops[i]? = some o → ∀ e ∈ o.after, Region.binds .any e = true → S e.on) → S k := by
  intro l
  induction l with
  | nil =>
    intro acc hl h j hj k hk hS
    unfold bf ancL at hk
    by_cases hlt : j < acc.length
    · exact h j hlt hj k hk hS
    · rw [List.getD_eq_getElem?_getD, List.getElem?_eq_none (by omega)] at hk
      simp at hk
  | cons o r ih =>
    intro acc hl h j hj k hk hS
    rw [show ancL (o :: r) acc = ancL r (acc ++ [ancOne acc o]) from force_eq _ _] at hk
    refine ih (acc ++ [ancOne acc o]) (fun i => by have := hl (i + 1); simpa [Nat.add_assoc, Nat.add_comm 1 i] using this) (fun i hi hi' k hk hS => ?_) j hj k hk hS
    by_cases hlt : i < acc.length
    · rw [List.getD_eq_getElem?_getD, List.getElem?_append_left hlt, ← List.getD_eq_getElem?_getD] at hk
      exact h i hlt hi' k hk hS
    · have hi2 : i = acc.length := by simp at hi; omega
      subst hi2
      have ho : ops[acc.length]? = some o := by simpa using (hl 0).symm
      rw [List.getD_eq_getElem?_getD, List.getElem?_append_right (Nat.le_refl _)] at hk
      simp only [Nat.sub_self, List.getElem?_cons_zero, Option.getD_some] at hk
      rcases anc_fold acc k _ _ hk with h0 | ⟨e, he, hb, h1⟩
      · simp at h0
      · have hSe := hi' o ho e (by simpa using he) hb
        rcases h1 with rfl | h1
        · exact hSe
        · by_cases hlt2 : e.on < acc.length
          · exact h e.on hlt2 (fun o' ho' e' he' hb' => hS e.on hSe o' ho' e' he' hb') k h1 hS
          · rw [List.getD_eq_getElem?_getD, List.getElem?_eq_none (by omega)] at h1
            simp at h1
theorem bf_closed {ops : Array Oper} {S : Nat → Prop} (hS : ∀ i, S i → ∀ o, ops[i]? = some o → ∀ e ∈ o.after, Region.binds .any e = true → S e.on) {j : Nat}
    (hj : ∀ o, ops[j]? = some o → ∀ e ∈ o.after, Region.binds .any e = true → S e.on) {k : Nat} (hk : bf (ancL ops.toList []) k j = true) : S k :=
  anc_closed ops.toList [] (fun j => by simp) (fun j hj => by simp at hj) j hj k hk hS

/-! ### What is asked of a region that draws -/
def dstOf (ops : Array Oper) (i : Nat) : Option Nat := (ops[i]?).bind (·.dst)
def looks (ops : Array Oper) (i : Nat) : List Nat := match ops[i]? with | some o => o.looksAt ops | none => []
def isRd (P : Program) (ops : Array Oper) (i : Nat) : Bool := match ops[i]? with | some o => readB P o && o.dst.isSome | none => false
/-- May operation i be done, those in E having been done? -/
def okAt (ops : Array Oper) (A : List Nat) (E : List Nat) (i : Nat) : Bool :=
  (List.range ops.size).all (fun k => !bf A k i || E.contains k) && E.all (fun k => !bf A i k || match dstOf ops k with | some d => !(looks ops i).contains d | none => true)
def drawOk (P : Program) (n : Nat) (ops : Array Oper) (A : List Nat) : Bool :=
  Region.noSelect ops &&
  (List.range ops.size).all (fun i => (match dstOf ops i with | some d => decide (d < n) && !(looks ops i).contains d | none => true) &&
    (match ops[i]? with | some o => o.after.all (fun e => !Region.binds .any e || decide (e.on < i)) | none => true) &&
    (List.range ops.size).all fun j => i == j || (match dstOf ops i with
      | some d => dstOf ops j != some d && (!(looks ops j).contains d || bf A i j || bf A j i)
      | none => true))
/-- A guarded operation: what it gives. -/
def vcGd (P : Program) (n : Nat) (ops : Array Oper) (o : Oper) (Ev : List Nat) (dec : List (Nat × Bool)) (e : Env) (run : List (Nat × Bool) → Env → Prop) (skip : List (Nat × Bool) → Env → Prop) : Prop :=
  match o.guard with
  | none => run dec e
  | some (j, want) =>
    match dec.lookup j with
    | some c => if c = want then run dec e else skip dec e
    | none =>
      if Ev.contains j = false then False else
      match yv ops e j with
      | some b => if b = want then run ((j, want) :: dec) (put n e (dstOf ops j) (.bool want)) else skip ((j, !want) :: dec) (put n e (dstOf ops j) (.bool !want))
      | none => skip dec e
def vcRd (P : Program) (n : Nat) (ops : Array Oper) (A : List Nat) : List Nat → List Nat → List (Nat × Bool) → Env → World → (List (Nat × Bool) → Env → Prop) → Prop
  | [], _, dec, e, w, K => K dec e
  | i :: r, E, dec, e, w, K =>
    match ops[i]? with
    | none => False
    | some o => if okAt ops A E i then vcGd P n ops o E dec e (fun dec e => vcOp P o e w fun v _ => vcRd P n ops A r (i :: E) dec (put n e o.dst v) w K) (fun dec e => vcRd P n ops A r (i :: E) dec (put n e o.dst undef) w K) else False
def vcAg (P : Program) (n : Nat) (ops : Array Oper) (A : List Nat) : List Nat → List Nat → List (Nat × Bool) → Env → World → Prop → Prop
  | [], _, _, _, _, p => p
  | i :: r, E, dec, e, w, p =>
    match ops[i]? with
    | none => False
    | some o => if okAt ops A E i then vcGd P n ops o E dec e (fun dec e => vcOp P o e w fun v _ => (match o.dst with | some d => v = e d | none => False) ∧ vcAg P n ops A r E dec e w p) (fun dec e => vcAg P n ops A r E dec e w p) else False
def conj : List Prop → Prop
  | [] => True
  | [p] => p
  | p :: r => p ∧ conj r
theorem conj_out : ∀ {l : List Prop} {p : Prop}, conj l → p ∈ l → p
  | [], _, _, h => by cases h
  | [p], q, h, hq => by rcases List.mem_cons.1 hq with rfl | hq; exact h; cases hq
  | p :: p' :: r, q, h, hq => by
    rcases List.mem_cons.1 hq with rfl | hq
    · exact h.1
    · exact conj_out h.2 hq
/-- The same in every world. -/
def Cst {α : Type} (P : Program) (s : Sem α) : Prop := ∀ w w' x w1, s.run P w = .ok x w1 → w1 = w ∧ s.run P w' = .ok x w'
theorem Cst.pure {α : Type} {P : Program} (a : α) : Cst P (Pure.pure a : Sem α) := fun w w' x w1 h => by cases h; exact ⟨rfl, rfl⟩
theorem Cst.bind {α β : Type} {P : Program} {s : Sem α} {f : α → Sem β} (h : Cst P s) (k : ∀ a, Cst P (f a)) : Cst P (s >>= f) := fun w w' x w1 hr => by
  rw [Sem.run_bind] at hr
  cases hs : s.run P w with
  | halt x y => rw [hs] at hr; cases hr
  | ok a w2 =>
    rw [hs] at hr
    obtain ⟨rfl, h2⟩ := h w w' a w2 hs
    obtain ⟨h3, h4⟩ := k a _ w' _ _ hr
    refine ⟨h3, ?_⟩
    rw [Sem.run_bind, h2]
    exact h4
theorem Cst.stuck {α : Type} {P : Program} (x : String) : Cst P (Go.stuck x : Sem α) := fun w w' y w1 h => by cases h
theorem Cst.unsupported {α : Type} {P : Program} (x : Unsupported) : Cst P (Go.unsupported x : Sem α) := fun w w' y w1 h => by cases h
theorem Cst.program {P : Program} : Cst P Go.program := fun w w' x w1 h => by cases h; exact ⟨rfl, rfl⟩
theorem Cst.panic {α : Type} {P : Program} (x : RuntimeError) : Cst P (runtimePanic x : Sem α) := by
  intro w w' y w1 h
  exfalso
  revert h
  cases x <;> simp [runtimePanic]
  · generalize (Sem.run P (elemOf P.rt.typeAssertionError) w) = r
    cases r <;> simp
    rename_i t u
    generalize Sem.run P (newVar _ _) _ = r
    cases r <;> simp
  · generalize (Sem.run P (elemOf P.rt.panicNilError) w) = r
    cases r <;> simp
    rename_i t u
    generalize Sem.run P (newVar _ _) _ = r
    cases r <;> simp
theorem Cst.typeInfo {P : Program} (t : TypeId) : Cst P (Go.typeInfo t) := by
  unfold Go.typeInfo
  refine Cst.bind Cst.program fun a => ?_
  split
  · exact Cst.pure _
  · exact Cst.stuck _
theorem Cst.underlying {P : Program} (t : TypeId) : Cst P (Go.underlying t) := by
  unfold Go.underlying
  refine Cst.bind Cst.program fun a => ?_
  split
  · exact Cst.pure _
  · exact Cst.stuck _
theorem Cst.sizeOf {P : Program} (t : TypeId) : Cst P (Go.sizeOf t) := by
  unfold Go.sizeOf
  exact Cst.bind (Cst.typeInfo _) fun _ => Cst.pure _
theorem Cst.isAgg {P : Program} (t : TypeId) : Cst P (Go.isAgg t) := by
  unfold Go.isAgg
  refine Cst.bind (Cst.underlying _) fun a => ?_
  split <;> exact Cst.pure _
theorem Cst.part {P : Program} (t : TypeId) (cs : Array Value) (off : Nat) : Cst P (Go.part t cs off) := by
  unfold Go.part
  refine Cst.bind (Cst.isAgg _) fun b => ?_
  split
  · exact Cst.bind (Cst.sizeOf _) fun _ => Cst.pure _
  · split
    · exact Cst.pure _
    · exact Cst.stuck _
theorem Cst.followBlind {P : Program} : ∀ (l : List FieldStep) (t : TypeId) (v : Option Value), Cst P (Go.followBlind l t v) := by
  intro l
  induction l with
  | nil => intro t v; exact Cst.pure _
  | cons s l ih =>
    intro t v
    unfold Go.followBlind
    refine Cst.bind (Cst.underlying _) fun d => ?_
    split
    · split
      · split <;> first | exact Cst.pure _ | exact Cst.stuck _ | exact ih _ _ | exact Cst.bind (Cst.part _ _ _) fun _ => ih _ _
      · exact Cst.stuck _
    · exact Cst.stuck _
theorem Cst.nilAhead {P : Program} : ∀ (n : Nat) (t : TypeId) (v : Value) (s : String), Cst P (Go.nilAhead n t v s) := by
  intro n
  induction n with
  | zero => intro t v s; exact Cst.pure _
  | succ n ih =>
    intro t v s
    unfold Go.nilAhead
    refine Cst.bind (Cst.typeInfo _) fun i => ?_
    split
    · refine Cst.bind (Cst.followBlind _ _ _) fun r => ?_
      split
      · exact Cst.pure _
      · split <;> first | exact Cst.pure _ | exact Cst.stuck _ | exact ih _ _ _ | skip
        refine Cst.bind (Cst.underlying _) fun d => ?_
        split <;> exact Cst.pure _
    · exact Cst.stuck _
/-- May what a reading operation gives hang on the world? -/
def wdep (P : Program) (ops : Array Oper) (i : Nat) : Bool :=
  match ops[i]? with
  | some o => (match o.op with
    | .move _ | .assign _ | .extract _ _ | .makeInterface _ _ | .nilCheck _ => false
    | .fieldAddr T _ f => (match P.underlying T with | some (.struct fs) => (match fs[f]? with | some fd => (match tySize P fd.type with | some (_ + 1) => false | _ => true) | none => true) | _ => true)
    | _ => true)
  | none => true
theorem indep {P : Program} {ops : Array Oper} {i : Nat} {o : Oper} (ho : ops[i]? = some o) (h : wdep P ops i = false) (ρ : Operand → Value) : Cst P (execOp ρ o) := by
  unfold wdep at h
  rw [ho] at h
  obtain ⟨dst, op, type, pos, after, guard⟩ := o
  cases op
  case move x => exact Cst.pure _
  case assign x => exact Cst.pure _
  case extract x i =>
    simp only [execOp]
    refine Cst.bind ?_ fun _ => Cst.pure _
    unfold Instr.extract
    split
    · split
      · exact Cst.pure _
      · exact Cst.stuck _
    · exact Cst.stuck _
  case makeInterface t x =>
    simp only [execOp]
    refine Cst.bind ?_ fun _ => Cst.pure _
    unfold Instr.makeInterface
    refine Cst.bind (Cst.underlying _) fun d => ?_
    split
    · exact Cst.stuck _
    · exact Cst.pure _
  case nilCheck x =>
    simp only [execOp]
    split
    · exact Cst.panic _
    · exact Cst.panic _
    · exact Cst.panic _
    · split
      · exact Cst.panic _
      · refine Cst.bind Cst.program fun p => Cst.bind (Cst.nilAhead _ _ _ _) fun r => ?_
        split
        · exact Cst.bind (Cst.unsupported _) fun _ => Cst.pure _
        · exact Cst.pure _
      · exact Cst.pure _
    · exact Cst.pure _
  case fieldAddr T x f =>
    simp only [execOp]
    refine Cst.bind ?_ fun _ => Cst.pure _
    unfold Instr.fieldAt
    intro w w' v w1 hr
    simp only at h
    split at h
    · rename_i fs hu
      split at h
      · rename_i fd hfd
        split at h
        · rename_i n hsz
          cases hx : ρ x with
          | pointer p =>
            cases p with
            | some ad =>
              simp [underlying, hu, hfd, hx, Instr.sureAddr, fieldPlace, tySize_run hsz] at hr ⊢
              exact ⟨hr.2.symm, hr.1⟩
            | none => simp [underlying, hu, hfd, hx, Instr.sureAddr] at hr
          | _ => simp [underlying, hu, hfd, hx, Instr.sureAddr] at hr
        · exact absurd h (by simp)
      · exact absurd h (by simp)
    · exact absurd h (by simp)
  all_goals exact absurd h (by simp)
def vcDr (P : Program) (n : Nat) (ops : Array Oper) (A : List Nat) : Nat → List Nat → List Nat → Option Nat → List (Nat × Bool) → Env → World → EW → Prop
  | 0, _, _, _, _, _, _, _ => False
  | f + 1, R, X, last, dec, e, w, K =>
    vcAg P n ops A (match last with | some l => R.reverse.filter (fun r => !bf A r l && wdep P ops r) | none => []) (R ++ X) dec e w
      (vcRd P n ops A ((List.range ops.size).filter fun i => isRd P ops i && !R.contains i && (List.range ops.size).all (fun x => isRd P ops x || !bf A x i || X.contains x)) (R ++ X) dec e w fun dec e =>
        let R' := ((List.range ops.size).filter fun i => isRd P ops i && !R.contains i && (List.range ops.size).all (fun x => isRd P ops x || !bf A x i || X.contains x)).reverse ++ R
        match (List.range ops.size).filter (fun x => !isRd P ops x && !X.contains x && (List.range ops.size).all (fun y => isRd P ops y || !bf A y x || X.contains y)) with
        | [] => if (List.range ops.size).all (fun i => (R' ++ X).contains i) then K e w else False
        | es => conj (es.map fun x => match ops[x]? with
          | none => False
          | some o => if okAt ops A (R' ++ X) x then vcGd P n ops o (R' ++ X) dec e (fun dec e => vcOp P o e w fun v w' => vcDr P n ops A f R' (x :: X) (some x) dec (put n e o.dst v) w' K) (fun dec e => vcDr P n ops A f R' (x :: X) (some x) dec (put n e o.dst undef) w K) else False))
/-- The order is drawn: whatever it is. -/
def vcDraw (P : Program) (n : Nat) (ops : Array Oper) (e : Env) (w : World) (K : EW) : Prop :=
  if drawOk P n ops (ancL ops.toList []) then ∀ w' : World, w' = w.drew → vcDr P n ops (ancL ops.toList []) (ops.size + 1) [] [] none [] e w' K else False

/-! ### It suffices -/
def decOk (ops : Array Oper) (Ev : List Nat) (dec : List (Nat × Bool)) (e : Env) : Prop := ∀ j c, dec.lookup j = some c → j ∈ Ev ∧ yv ops e j = some c
theorem decOk.cons {ops : Array Oper} {Ev : List Nat} {dec : List (Nat × Bool)} {e : Env} (h : decOk ops Ev dec e) {j : Nat} {c : Bool} (hj : j ∈ Ev) (hc : yv ops e j = some c) : decOk ops Ev ((j, c) :: dec) e := fun i c' hi => by
  by_cases hij : i = j
  · subst hij
    rw [List.lookup_cons, show (i == i) = true by simp] at hi
    cases hi
    exact ⟨hj, hc⟩
  · rw [List.lookup_cons, show (i == j) = false by simpa using hij] at hi
    exact h i c' hi
theorem vcGd_out {P : Program} {n : Nat} {ops : Array Oper} {o : Oper} {Ev : List Nat} {dec : List (Nat × Bool)} {e : Env} {run skip : List (Nat × Bool) → Env → Prop} (h : vcGd P n ops o Ev dec e run skip) (hd : decOk ops Ev dec e) :
    ∃ dec', decOk ops Ev dec' e ∧ ((Region.wanted o (yv ops e) = true ∧ run dec' e) ∨ (Region.wanted o (yv ops e) = false ∧ skip dec' e)) := by
  unfold vcGd at h
  split at h
  · rename_i hg
    exact ⟨dec, hd, .inl ⟨by simp [Region.wanted, hg], h⟩⟩
  · rename_i j want hg
    have hw : Region.wanted o (yv ops e) = (yv ops e j == some want) := by simp only [Region.wanted, hg]
    split at h
    · rename_i c hl
      have hc := (hd j c hl).2
      split at h
      · rename_i hcw
        exact ⟨dec, hd, .inl ⟨by rw [hw, hc, hcw]; simp, h⟩⟩
      · rename_i hcw
        exact ⟨dec, hd, .inr ⟨by rw [hw, hc]; simp [hcw], h⟩⟩
    · split at h
      · exact h.elim
      · rename_i hj
        have hj' : j ∈ Ev := by simpa using hj
        split at h
        · rename_i b hb
          split at h
          · rename_i hbw
            subst hbw
            rw [show dstOf ops j = (ops[j]?).bind (·.dst) from rfl, put_same hb] at h
            exact ⟨_, hd.cons hj' hb, .inl ⟨by rw [hw, hb]; simp, h⟩⟩
          · rename_i hbw
            have hbn : b = !want := by cases b <;> cases want <;> simp_all
            subst hbn
            rw [show dstOf ops j = (ops[j]?).bind (·.dst) from rfl, put_same hb] at h
            exact ⟨_, hd.cons hj' hb, .inr ⟨by rw [hw, hb]; simp, h⟩⟩
        · rename_i hb
          exact ⟨dec, hd, .inr ⟨by rw [hw, hb]; simp, h⟩⟩

section
variable {P : Program} {n : Nat} {ops : Array Oper} {A : List Nat}

theorem drawOk_spec (h : drawOk P n ops A = true) : Region.noSelect ops = true ∧ (∀ i d, dstOf ops i = some d → d < n ∧ d ∉ looks ops i) ∧ (∀ i o, ops[i]? = some o → ∀ e ∈ o.after, Region.binds .any e = true → e.on < i) ∧
    (∀ i j d, dstOf ops i = some d → i ≠ j → j < ops.size → dstOf ops j ≠ some d ∧ (d ∈ looks ops j → bf A i j = true ∨ bf A j i = true)) := by
  unfold drawOk at h
  rw [Bool.and_eq_true] at h
  obtain ⟨h0, h⟩ := h
  rw [List.all_eq_true] at h
  have lt : ∀ i d, dstOf ops i = some d → i < ops.size := fun i d hd => by
    unfold dstOf at hd
    rcases Nat.lt_or_ge i ops.size with hl | hl
    · exact hl
    · rw [Array.getElem?_eq_none hl] at hd; cases hd
  refine ⟨h0, fun i d hd => ?_, fun i o ho e he hb => ?_, fun i j d hd hij hj => ?_⟩
  · have := h i (List.mem_range.2 (lt i d hd))
    simp only [hd, Bool.and_eq_true, decide_eq_true_eq] at this
    exact ⟨this.1.1.1, by simpa using this.1.1.2⟩
  · have := h i (List.mem_range.2 (Array.getElem?_eq_some_iff.1 ho).1)
    simp only [ho, Bool.and_eq_true] at this
    have := Array.all_eq_true_iff_forall_mem.1 this.1.2 e he
    simpa [hb] using this
  · have := h i (List.mem_range.2 (lt i d hd))
    simp only [hd, Bool.and_eq_true, List.all_eq_true] at this
    have := this.2 j (List.mem_range.2 hj)
    simp only [Bool.or_eq_true, beq_iff_eq, hij, false_or, Bool.and_eq_true, bne_iff_ne, ne_eq, Bool.not_eq_true', List.contains_eq_mem, decide_eq_false_iff_not] at this
    refine ⟨this.1, fun hd' => ?_⟩
    rcases this.2 with (h1 | h1) | h1
    · exact (h1 hd').elim
    · exact .inl h1
    · exact .inr h1
theorem okAt_spec {E : List Nat} {i : Nat} (h : okAt ops A E i = true) : (∀ k, k < ops.size → bf A k i = true → k ∈ E) ∧ (∀ k ∈ E, bf A i k = true → ∀ d, dstOf ops k = some d → d ∉ looks ops i) := by
  unfold okAt at h
  rw [Bool.and_eq_true, List.all_eq_true, List.all_eq_true] at h
  refine ⟨fun k hk hb => ?_, fun k hk hb d hd => ?_⟩
  · have := h.1 k (List.mem_range.2 hk)
    simpa [hb] using this
  · have := h.2 k hk
    simp only [hb, Bool.not_true, Bool.false_or, hd] at this
    simpa using this
theorem dst_lt {i d : Nat} (hd : dstOf ops i = some d) : i < ops.size := by
  unfold dstOf at hd
  rcases Nat.lt_or_ge i ops.size with hl | hl
  · exact hl
  · rw [Array.getElem?_eq_none hl] at hd; cases hd
theorem looks_congr {f g : Env} {i : Nat} {o : Oper} (hs : Region.noSelect ops = true) (ho : ops[i]? = some o) (h : ∀ t ∈ looks ops i, f t = g t) : execOp (ev f) o = execOp (ev g) o ∧ Region.wanted o (yv ops f) = Region.wanted o (yv ops g) := by
  have hl : looks ops i = o.looksAt ops := by unfold looks; rw [ho]
  rw [hl] at h
  constructor
  · refine execOp_congr o (fun cs b => Region.noSelect_spec hs i o cs b ho) fun x hx => ?_
    cases x with
    | tmp t => exact h t (List.mem_append_left _ (List.mem_filterMap.2 ⟨.tmp t, by simpa using hx, rfl⟩))
    | _ => rfl
  · unfold Region.wanted
    cases hg : o.guard with
    | none => rfl
    | some gw =>
      obtain ⟨j, want⟩ := gw
      simp only
      have : yv ops f j = yv ops g j := by
        unfold yv
        cases hd : (ops[j]?).bind (·.dst) with
        | none => rfl
        | some d =>
          simp only
          rw [h d (List.mem_append_right _ (by simp [hg, hd]))]
      rw [this]
def gives (P : Program) (ops : Array Oper) (er : Env) (o : Oper) (w : World) (v : Value) : Prop :=
  (Region.wanted o (yv ops er) = true ∧ (execOp (ev er) o).run P w = .ok (.value v) w) ∨ (Region.wanted o (yv ops er) = false ∧ v = undef)
/-- What is known of a reading operation that has been reckoned and not yet been done. -/
structure Rdy (P : Program) (ops : Array Oper) (A : List Nat) (Ev : List Nat) (E e0 : Env) (w : World) (r : Nat) : Prop where
  mk ::
  out : ∃ (o : Oper) (d : Nat) (er : Env), ops[r]? = some o ∧ o.dst = some d ∧ (∀ k, k < ops.size → bf A k r = true → k ∈ Ev) ∧
    (∀ t ∈ looks ops r, ∀ k, dstOf ops k = some t → bf A k r = true → er t = E t) ∧ (∀ t ∈ looks ops r, (∀ k, dstOf ops k = some t → k ≠ r → bf A k r = false) → er t = e0 t) ∧ gives P ops er o w (E d)
def baseOk (ops : Array Oper) (Ev : List Nat) (E e0 : Env) : Prop := ∀ t, (∀ k ∈ Ev, dstOf ops k ≠ some t) → E t = e0 t
/-- A reading operation that is reckoned now. -/
theorem Rdy.now (hok : drawOk P n ops A = true) {Ev : List Nat} {E e0 : Env} {w : World} {r : Nat} {o : Oper} {d : Nat} {v : Value} (ho : ops[r]? = some o) (hd : o.dst = some d) (hb : baseOk ops Ev E e0) (hat : okAt ops A Ev r = true)
    (hg : gives P ops E o w v) {E' : Env} (hE' : ∀ t, (∃ k ∈ Ev, dstOf ops k = some t) → E' t = E t) (hv : E' d = v) (hr : r ∉ Ev ∨ E' = E) {Ev' : List Nat} (hEv : ∀ k ∈ Ev, k ∈ Ev') : Rdy P ops A Ev' E' e0 w r := by
  obtain ⟨_, hself, _, htmp⟩ := drawOk_spec hok
  obtain ⟨hb1, hb2⟩ := okAt_spec hat
  refine ⟨o, d, E, ho, hd, fun k hk hbf => hEv k (hb1 k hk hbf), fun t ht k hkt hbf => ?_, fun t ht hno => ?_, by rw [hv]; exact hg⟩
  · exact (hE' t ⟨k, hb1 k (dst_lt hkt) hbf, hkt⟩).symm
  · refine hb t fun k hk hkt => ?_
    by_cases hkr : k = r
    · subst hkr
      exact (hself k t hkt).2 ht
    · rcases (htmp k r t hkt hkr (Array.getElem?_eq_some_iff.1 ho).1).2 ht with h1 | h1
      · rw [hno k hkt hkr] at h1; cases h1
      · exact hb2 k hk h1 t hkt ht
theorem Rdy.keep (hok : drawOk P n ops A = true) {Ev : List Nat} {E e0 : Env} {w : World} {r : Nat} (h : Rdy P ops A Ev E e0 w r) (hr : r ∈ Ev) {E' : Env} (hE' : ∀ t, (∃ k ∈ Ev, dstOf ops k = some t) → E' t = E t) {Ev' : List Nat} (hEv : ∀ k ∈ Ev, k ∈ Ev') : Rdy P ops A Ev' E' e0 w r := by
  obtain ⟨o, d, er, ho, hd, h1, h2, h3, h4⟩ := h.out
  refine ⟨o, d, er, ho, hd, fun k hk hb => hEv k (h1 k hk hb), fun t ht k hkt hb => ?_, h3, ?_⟩
  · rw [h2 t ht k hkt hb]
    exact (hE' t ⟨k, h1 k (dst_lt hkt) hb, hkt⟩).symm
  · rw [hE' d ⟨r, hr, by simp [dstOf, ho, hd]⟩]
    exact h4
/-- What is known beside the machine. -/
structure VI (P : Program) (n : Nat) (ops : Array Oper) (A : List Nat) (S : Nat → Prop) (R X : List Nat) (dec : List (Nat × Bool)) (E e0 : Env) (w : World) : Prop where
  base : baseOk ops (R ++ X) E e0
  dec : decOk ops (R ++ X) dec E
  inR : ∀ k ∈ R, isRd P ops k = true
  inX : ∀ k ∈ X, isRd P ops k = false
  rdy : ∀ r ∈ R, ¬ S r → Rdy P ops A (R ++ X) E e0 w r
theorem put_lt {n d : Nat} (h : d < n) (e : Env) (v : Value) : put n e (some d) v = fun i => if i = d then v else e i := by simp [put, h]
theorem decOk.put {Ev : List Nat} {dec : List (Nat × Bool)} {E : Env} (h : decOk ops Ev dec E) (hok : drawOk P n ops A = true) {i : Nat} (hi : i ∉ Ev) {o : Oper} (ho : ops[i]? = some o) (v : Value) {Ev' : List Nat} (hEv : ∀ k ∈ Ev, k ∈ Ev') : decOk ops Ev' dec (Sk.put n E o.dst v) := fun j c hl => by
  obtain ⟨_, _, _, htmp⟩ := drawOk_spec hok
  obtain ⟨hj, hy⟩ := h j c hl
  refine ⟨hEv j hj, ?_⟩
  unfold yv at hy ⊢
  cases hjd : (ops[j]?).bind (·.dst) with
  | none => simp [hjd] at hy
  | some d =>
    simp only [hjd] at hy ⊢
    have hne : i ≠ j := fun e => hi (e ▸ hj)
    have : Sk.put n E o.dst v d = E d := by
      unfold Sk.put
      cases hod : o.dst with
      | none => rfl
      | some d' =>
        have h' := (htmp j i d (show dstOf ops j = some d from hjd) (fun e => hne e.symm) (Array.getElem?_eq_some_iff.1 ho).1).1
        have : d ≠ d' := fun e => h' (by simp [dstOf, ho, hod, e])
        simp only
        split <;> simp [this]
    rw [this]
    exact hy
/-- An operation's slot is none of those that others have filled. -/
theorem put_other (hok : drawOk P n ops A = true) {Ev : List Nat} {E : Env} {i : Nat} (hi : i ∉ Ev) {o : Oper} (ho : ops[i]? = some o) (v : Value) : ∀ t, (∃ k ∈ Ev, dstOf ops k = some t) → put n E o.dst v t = E t := by
  rintro t ⟨k, hk, hkt⟩
  obtain ⟨_, _, _, htmp⟩ := drawOk_spec hok
  have hne : k ≠ i := fun e => hi (e ▸ hk)
  have h' := (htmp k i t hkt hne (Array.getElem?_eq_some_iff.1 ho).1).1
  unfold put
  cases hod : o.dst with
  | none => rfl
  | some d' =>
    have : t ≠ d' := fun e => h' (by simp [dstOf, ho, hod, e])
    simp only
    split <;> simp [this]
theorem base_put {Ev : List Nat} {E e0 : Env} (h : baseOk ops Ev E e0) {i : Nat} {o : Oper} (ho : ops[i]? = some o) (v : Value) {Ev' : List Nat} (hEv : ∀ k ∈ Ev, k ∈ Ev') (hi : i ∈ Ev') : baseOk ops Ev' (put n E o.dst v) e0 := fun t ht => by
  have h1 := h t fun k hk => ht k (hEv k hk)
  have h2 := ht i hi
  unfold put
  cases hod : o.dst with
  | none => exact h1
  | some d' =>
    have : t ≠ d' := fun e => h2 (by simp [dstOf, ho, hod, e])
    simp only
    split <;> simp [this, h1]

/-- The readings of a stage. -/
theorem vcRd_out (hok : drawOk P n ops A = true) {S : Nat → Prop} {X : List Nat} {e0 : Env} {w : World} : ∀ (l R : List Nat) (dec : List (Nat × Bool)) (E : Env) (K : List (Nat × Bool) → Env → Prop), VI P n ops A S R X dec E e0 w →
    vcRd P n ops A l (R ++ X) dec E w K → (∀ i ∈ l, isRd P ops i = true ∧ i ∉ R ++ X) → l.Nodup →
    ∃ dec' E', K dec' E' ∧ VI P n ops A S (l.reverse ++ R) X dec' E' e0 w ∧ (∀ t, (∃ k ∈ R ++ X, dstOf ops k = some t) → E' t = E t) := by
  intro l
  induction l with
  | nil => intro R dec E K hV h _ _; exact ⟨dec, E, h, by simpa using hV, fun _ _ => rfl⟩
  | cons i l ih =>
    intro R dec E K hV h hl hnd
    obtain ⟨hi1, hi2⟩ := hl i (by simp)
    simp only [vcRd] at h
    split at h
    · exact h.elim
    · rename_i o ho
      split at h
      · rename_i hat
        have hrd : readB P o = true ∧ ∃ d, o.dst = some d := by
          unfold isRd at hi1
          rw [ho] at hi1
          simp only [Bool.and_eq_true, Option.isSome_iff_exists] at hi1
          exact hi1
        obtain ⟨hrd, d, hd⟩ := hrd
        have hdn : d < n := ((drawOk_spec hok).2.1 i d (by simp [dstOf, ho, hd])).1
        obtain ⟨dec', hdec', hgd⟩ := vcGd_out h hV.dec
        have hsub : ∀ k ∈ R ++ X, k ∈ (i :: R) ++ X := fun k hk => List.mem_cons_of_mem _ hk
        have step : ∀ (v : Value), gives P ops E o w v → vcRd P n ops A l ((i :: R) ++ X) dec' (put n E o.dst v) w K →
            ∃ dec' E', K dec' E' ∧ VI P n ops A S ((i :: l).reverse ++ R) X dec' E' e0 w ∧ (∀ t, (∃ k ∈ R ++ X, dstOf ops k = some t) → E' t = E t) := fun v hg hK => by
          have hpo := put_other hok hi2 ho v (E := E)
          have hV' : VI P n ops A S (i :: R) X dec' (put n E o.dst v) e0 w := by
            refine ⟨base_put hV.base ho v hsub (by simp), hdec'.put hok hi2 ho v hsub, fun k hk => ?_, hV.inX, fun r hr hS => ?_⟩
            · rcases List.mem_cons.1 hk with rfl | hk
              · exact hi1
              · exact hV.inR k hk
            · rcases List.mem_cons.1 hr with rfl | hr
              · exact Rdy.now hok ho hd hV.base hat hg hpo (by rw [hd, put_lt hdn]; simp) (.inl hi2) hsub
              · exact (hV.rdy r hr hS).keep hok (by simp [hr]) hpo hsub
          obtain ⟨dec2, E2, hK2, hV2, hE2⟩ := ih (i :: R) dec' _ K hV' hK (fun j hj => by
            refine ⟨(hl j (List.mem_cons_of_mem _ hj)).1, fun hj2 => ?_⟩
            have hji : j ≠ i := fun e => by subst e; exact (List.nodup_cons.1 hnd).1 hj
            have := (hl j (List.mem_cons_of_mem _ hj)).2
            rcases List.mem_cons.1 (show j ∈ i :: (R ++ X) from hj2) with h | h
            · exact hji h
            · exact this h) (List.nodup_cons.1 hnd).2
          refine ⟨dec2, E2, hK2, by simpa using hV2, fun t ⟨k, hk, hkt⟩ => ?_⟩
          rw [hE2 t ⟨k, hsub k hk, hkt⟩]
          exact hpo t ⟨k, hk, hkt⟩
        rcases hgd with ⟨hw, hrun⟩ | ⟨hw, hskip⟩
        · obtain ⟨v, hr, hK⟩ := vcOp_read hrd hrun
          exact step v (.inl ⟨hw, hr⟩) hK
        · exact step undef (.inr ⟨hw, rfl⟩) hskip
      · exact h.elim
/-- What is asked again. -/
theorem vcAg_out (hok : drawOk P n ops A = true) {S : Nat → Prop} {Ev : List Nat} {E e0 : Env} {w : World} (hb : baseOk ops Ev E e0) {p : Prop} : ∀ (l : List Nat) (dec : List (Nat × Bool)), decOk ops Ev dec E →
    vcAg P n ops A l Ev dec E w p → (∀ i ∈ l, isRd P ops i = true ∧ i ∈ Ev) → (∀ i ∈ l, ¬ S i → okAt ops A Ev i = true → ∀ o, ops[i]? = some o → Region.wanted o (yv ops E) = false → ∀ d, o.dst = some d → E d = undef) → p ∧ ∀ r ∈ l, ¬ S r → Rdy P ops A Ev E e0 w r := by
  intro l
  induction l with
  | nil => intro dec _ h _ _; exact ⟨h, fun r hr => by cases hr⟩
  | cons i l ih =>
    intro dec hdec h hl hun
    obtain ⟨hi1, hi2⟩ := hl i (by simp)
    simp only [vcAg] at h
    split at h
    · exact h.elim
    · rename_i o ho
      split at h
      · rename_i hat
        have hrd : readB P o = true ∧ ∃ d, o.dst = some d := by
          unfold isRd at hi1
          rw [ho] at hi1
          simp only [Bool.and_eq_true, Option.isSome_iff_exists] at hi1
          exact hi1
        obtain ⟨hrd, d, hd⟩ := hrd
        obtain ⟨dec', hdec', hgd⟩ := vcGd_out h hdec
        have step : (¬ S i → gives P ops E o w (E d)) → vcAg P n ops A l Ev dec' E w p → p ∧ ∀ r ∈ i :: l, ¬ S r → Rdy P ops A Ev E e0 w r := fun hg hK => by
          obtain ⟨hp, hr⟩ := ih dec' hdec' hK (fun j hj => hl j (List.mem_cons_of_mem _ hj)) (fun j hj => hun j (List.mem_cons_of_mem _ hj))
          refine ⟨hp, fun r hr' hS => ?_⟩
          rcases List.mem_cons.1 hr' with rfl | hr'
          · exact Rdy.now hok ho hd hb hat (hg hS) (fun _ _ => rfl) rfl (.inr rfl) (fun _ h => h)
          · exact hr r hr' hS
        rcases hgd with ⟨hw, hrun⟩ | ⟨hw, hskip⟩
        · obtain ⟨v, hr, hv, hK⟩ := vcOp_read hrd hrun
          rw [hd] at hv
          simp only at hv
          subst hv
          exact step (fun _ => .inl ⟨hw, hr⟩) hK
        · exact step (fun hS => .inr ⟨hw, hun i (by simp) hS hat o ho hw d hd⟩) hskip
      · exact h.elim

/-- What is known of the machine. -/
structure MI (n : Nat) (ops : Array Oper) (L : Array Bool) (a : Act) (Ev X : List Nat) (E e0 : Env) : Prop where
  size : a.tmps.size = n
  defers : a.defers = []
  lsize : L.size = ops.size
  slot1 : ∀ t k, L.getD k false = true → dstOf ops k = some t → a.tmps.getD t undef = E t
  slot0 : ∀ t, (∀ k, L.getD k false = true → dstOf ops k ≠ some t) → a.tmps.getD t undef = e0 t
  sub : ∀ k, L.getD k false = true → k ∈ Ev
  eff : ∀ k ∈ X, L.getD k false = true
  cl : ∀ i, L.getD i false = true → ∀ o, ops[i]? = some o → ∀ e ∈ o.after, Region.binds .any e = true → L.getD e.on false = true
abbrev ae (a : Act) : Env := fun t => a.tmps.getD t undef
theorem ev_ae (a : Act) : a.eval = ev (ae a) := by
  funext x
  cases x <;> rfl
theorem yv_ae (a : Act) (j : Nat) : yielded ops a.tmps j = yv ops (ae a) j := yv_fits (n := a.tmps.size) (a := { a with defers := [] }) ⟨rfl, rfl, fun _ => rfl⟩ ops j
theorem yvs_ae (a : Act) : yielded ops a.tmps = yv ops (ae a) := funext (yv_ae a)
/-- The slots that an operation looks at, when it is its turn. -/
theorem MI.at_ {L : Array Bool} {a : Act} {Ev X : List Nat} {E e0 : Env} (h : MI n ops L a Ev X E e0) (hA : A = ancL ops.toList []) (hok : drawOk P n ops A = true) {i : Nat} {o : Oper} (ho : ops[i]? = some o) (hL : L.getD i false = false)
    (hr : ∀ e ∈ o.after, Region.binds .any e = true → L.getD e.on false = true) {t : Nat} (ht : t ∈ looks ops i) :
    (∀ k, dstOf ops k = some t → bf A k i = true → ae a t = E t) ∧ ((∀ k, dstOf ops k = some t → k ≠ i → bf A k i = false) → ae a t = e0 t) := by
  obtain ⟨_, _, _, htmp⟩ := drawOk_spec hok
  have hcl : ∀ k, bf A k i = true → L.getD k false = true := fun k hk => by
    subst hA
    exact bf_closed (S := fun j => L.getD j false = true) h.cl (fun o' ho' e he hb => by rw [ho] at ho'; cases ho'; exact hr e he hb) hk
  refine ⟨fun k hk hb => h.slot1 t k (hcl k hb) hk, fun hno => h.slot0 t fun k hk hkt => ?_⟩
  have hki : k ≠ i := fun e => by subst e; rw [hL] at hk; cases hk
  rcases (htmp k i t hkt hki (Array.getElem?_eq_some_iff.1 ho).1).2 ht with h1 | h1
  · rw [hno k hkt hki] at h1; cases h1
  · have : L.getD i false = true := by
      subst hA
      exact bf_closed (S := fun j => L.getD j false = true) h.cl (fun o' ho' e he hb => h.cl k hk o' ho' e he hb) h1
    rw [hL] at this; cases this
theorem getD_set_iff {L : Array Bool} {i k : Nat} (hi : i < L.size) : (L.setIfInBounds i true).getD k false = true ↔ k = i ∨ L.getD k false = true := by
  by_cases hk : k = i
  · subst hk
    simp [hi]
  · rw [getD_set_ne false (fun e => hk e.symm)]
    simp [hk]
/-- An operation has been done. -/
theorem MI.step {L : Array Bool} {a : Act} {Ev X : List Nat} {E e0 : Env} (h : MI n ops L a Ev X E e0) (hok : drawOk P n ops A = true) {i : Nat} {o : Oper} (ho : ops[i]? = some o)
    (hr : ∀ e ∈ o.after, Region.binds .any e = true → L.getD e.on false = true) {v : Value} {E' : Env} (hv : ∀ d, o.dst = some d → E' d = v) (hE : ∀ t, (∃ k ∈ Ev, dstOf ops k = some t) → E' t = E t) {Ev' X' : List Nat}
    (hEv : ∀ k ∈ Ev, k ∈ Ev') (hi : i ∈ Ev') (hX : ∀ k ∈ X', k ∈ X ∨ k = i) : MI n ops (L.setIfInBounds i true) (a.put o.dst v) Ev' X' E' e0 := by
  obtain ⟨_, hself, _, htmp⟩ := drawOk_spec hok
  have hlt : i < L.size := by rw [h.lsize]; exact (Array.getElem?_eq_some_iff.1 ho).1
  have hput : ∀ t, ae (a.put o.dst v) t = (if o.dst = some t then v else ae a t) := fun t => by
    cases hd : o.dst with
    | none => rfl
    | some d =>
      have hdn := (hself i d (by simp [dstOf, ho, hd])).1
      have hz := h.size
      by_cases ht : d = t
      · subst ht
        simp [ae, Act.put, hz, hdn]
      · simp [ae, Act.put, ht, Array.getElem?_setIfInBounds, Array.getD_eq_getD_getElem?]
  refine ⟨by simp only [Act.put]; split <;> simp [h.size], by simp only [Act.put]; split <;> exact h.defers, by simp [h.lsize], fun t k hk hkt => ?_, fun t hno => ?_, fun k hk => ?_, fun k hk => ?_, fun j hj o' ho' e he hb => ?_⟩
  · show ae (a.put o.dst v) t = E' t
    rw [hput]
    split
    · rename_i hd
      exact (hv t hd).symm
    · rename_i hd
      rcases (getD_set_iff hlt).1 hk with rfl | hk
      · exact (hd (by simpa [dstOf, ho] using hkt)).elim
      · rw [hE t ⟨k, h.sub k hk, hkt⟩]
        exact h.slot1 t k hk hkt
  · show ae (a.put o.dst v) t = e0 t
    rw [hput, if_neg (fun hd => hno i ((getD_set_iff hlt).2 (.inl rfl)) (by simp [dstOf, ho, hd]))]
    exact h.slot0 t fun k hk => hno k ((getD_set_iff hlt).2 (.inr hk))
  · rcases (getD_set_iff hlt).1 hk with rfl | hk
    · exact hi
    · exact hEv k (h.sub k hk)
  · rcases hX k hk with hk | rfl
    · exact (getD_set_iff hlt).2 (.inr (h.eff k hk))
    · exact (getD_set_iff hlt).2 (.inl rfl)
  · rcases (getD_set_iff hlt).1 hj with rfl | hj
    · rw [ho] at ho'
      cases ho'
      exact (getD_set_iff hlt).2 (.inr (hr e he hb))
    · exact (getD_set_iff hlt).2 (.inr (h.cl j hj o' ho' e he hb))
theorem filter_less {p q : Nat → Bool} : ∀ {l : List Nat}, (∀ x ∈ l, q x = true → p x = true) → (∃ x ∈ l, p x = true ∧ q x = false) → (l.filter q).length < (l.filter p).length := by
  intro l
  induction l with
  | nil => rintro _ ⟨x, hx, _⟩; cases hx
  | cons a l ih =>
    rintro h ⟨x, hx, hp, hq⟩
    have hle : (l.filter q).length ≤ (l.filter p).length := by
      clear ih hx
      induction l with
      | nil => simp
      | cons b l ihl =>
        have := ihl fun x hx => h x (by rcases List.mem_cons.1 hx with rfl | hx; simp; simp [hx])
        have hb := h b (by simp)
        simp only [List.filter_cons]
        cases hqb : q b
        · cases p b <;> simp <;> omega
        · rw [hb hqb]; simp; omega
    rcases List.mem_cons.1 hx with rfl | hx
    · simp only [List.filter_cons, hp, hq]
      simp
      omega
    · have := ih (fun y hy => h y (List.mem_cons_of_mem _ hy)) ⟨x, hx, hp, hq⟩
      simp only [List.filter_cons]
      cases hqa : q a
      · cases p a <;> simp <;> omega
      · rw [h a (by simp) hqa]; simp; omega
def unl (ops : Array Oper) (L : Array Bool) : Nat := ((List.range ops.size).filter fun i => !L.getD i false).length
def newR (P : Program) (ops : Array Oper) (A R X : List Nat) : List Nat := (List.range ops.size).filter fun i => isRd P ops i && !R.contains i && (List.range ops.size).all (fun x => isRd P ops x || !bf A x i || X.contains x)
def newX (P : Program) (ops : Array Oper) (A X : List Nat) : List Nat := (List.range ops.size).filter fun x => !isRd P ops x && !X.contains x && (List.range ops.size).all (fun y => isRd P ops y || !bf A y x || X.contains y)
/-- A stage whose readings are done. -/
def stage (P : Program) (n : Nat) (ops : Array Oper) (A : List Nat) (f : Nat) (R' X : List Nat) (dec : List (Nat × Bool)) (e : Env) (w : World) (K : EW) : Prop :=
  match newX P ops A X with
  | [] => if (List.range ops.size).all (fun i => (R' ++ X).contains i) then K e w else False
  | es => conj (es.map fun x => match ops[x]? with
    | none => False
    | some o => if okAt ops A (R' ++ X) x then vcGd P n ops o (R' ++ X) dec e (fun dec e => vcOp P o e w fun v w' => vcDr P n ops A f R' (x :: X) (some x) dec (put n e o.dst v) w' K) (fun dec e => vcDr P n ops A f R' (x :: X) (some x) dec (put n e o.dst undef) w K) else False)
/-- From a stage's beginning to where its readings are done. -/
theorem vcDr_stage (hok : drawOk P n ops A = true) {S : Nat → Prop} {f : Nat} {R X : List Nat} {last : Option Nat} {dec : List (Nat × Bool)} {E e0 : Env} {w : World} {K : EW}
    (h : vcDr P n ops A (f + 1) R X last dec E w K) (hb : baseOk ops (R ++ X) E e0) (hd : decOk ops (R ++ X) dec E) (hR : ∀ k ∈ R, isRd P ops k = true) (hX : ∀ k ∈ X, isRd P ops k = false)
    (hrd : ∀ r ∈ R, ¬ S r → (∀ l, last = some l → bf A r l = false) → ∃ w0, Rdy P ops A (R ++ X) E e0 w0 r) (hS : ∀ r ∈ R, ¬ S r → ∀ l, last = some l → bf A r l = false) (hlast : last = none → R = []) :
    ∃ dec' E', stage P n ops A f ((newR P ops A R X).reverse ++ R) X dec' E' w K ∧ VI P n ops A S ((newR P ops A R X).reverse ++ R) X dec' E' e0 w ∧ (∀ t, (∃ k ∈ R ++ X, dstOf ops k = some t) → E' t = E t) := by
  obtain ⟨_, _, _, htmp⟩ := drawOk_spec hok
  simp only [vcDr] at h
  obtain ⟨h, hag⟩ := vcAg_out hok (S := S) hb _ dec hd h (fun i hi => by
    cases last with
    | none => cases hi
    | some l =>
      have : i ∈ R := by simpa using (List.mem_filter.1 hi).1
      exact ⟨hR i this, by simp [this]⟩) (fun i hi hSi hat o ho hw d hd' => by
    cases last with
    | none => cases hi
    | some l =>
      have hiR : i ∈ R := by simpa using (List.mem_filter.1 hi).1
      obtain ⟨w0, hr⟩ := hrd i hiR hSi (hS i hiR hSi)
      obtain ⟨o', d', er, ho', hd2, h1, h2, h3, h4⟩ := hr.out
      rw [ho] at ho'; cases ho'
      rw [hd'] at hd2; cases hd2
      have hag : ∀ t ∈ looks ops i, er t = E t := fun t ht => by
        by_cases hex : ∃ k, dstOf ops k = some t ∧ bf A k i = true
        · obtain ⟨k, hk, hb'⟩ := hex
          exact h2 t ht k hk hb'
        · have hno : ∀ k, dstOf ops k = some t → k ≠ i → bf A k i = false := fun k hk _ => by
            cases hbb : bf A k i
            · rfl
            · exact (hex ⟨k, hk, hbb⟩).elim
          rw [h3 t ht hno]
          refine (hb t fun k hk hkt => ?_).symm
          by_cases hki : k = i
          · subst hki
            exact ((drawOk_spec hok).2.1 k t hkt).2 ht
          · rcases (htmp k i t hkt hki (Array.getElem?_eq_some_iff.1 ho).1).2 ht with h1' | h1'
            · rw [hno k hkt hki] at h1'; cases h1'
            · exact (okAt_spec hat).2 k hk h1' t hkt ht
      have hw' := (looks_congr (drawOk_spec hok).1 ho hag).2
      rcases h4 with ⟨h4, _⟩ | ⟨_, h4⟩
      · rw [hw', hw] at h4; cases h4
      · exact h4)
  have hV : VI P n ops A S R X dec E e0 w := ⟨hb, hd, hR, hX, fun r hr hSr => by
    cases last with
    | none => rw [hlast rfl] at hr; cases hr
    | some l =>
      cases hwd : wdep P ops r with
      | true =>
        refine hag r ?_ hSr
        refine List.mem_filter.2 ⟨by simpa using hr, ?_⟩
        rw [hS r hr hSr l rfl, hwd]
        rfl
      | false =>
        obtain ⟨w0, hr0⟩ := hrd r hr hSr (hS r hr hSr)
        obtain ⟨o, d, er, ho, hd, h1, h2, h3, h4⟩ := hr0.out
        refine ⟨o, d, er, ho, hd, h1, h2, h3, ?_⟩
        rcases h4 with ⟨h4, h5⟩ | h4
        · exact .inl ⟨h4, (indep ho hwd _ w0 w _ _ h5).2⟩
        · exact .inr h4⟩
  obtain ⟨dec', E', hK, hV', hE'⟩ := vcRd_out hok _ R dec E _ hV h (fun i hi => by
    have := (List.mem_filter.1 hi).2
    simp only [Bool.and_eq_true, Bool.not_eq_true', List.contains_eq_mem, decide_eq_false_iff_not] at this
    refine ⟨this.1.1, fun hm => ?_⟩
    rcases List.mem_append.1 hm with hm | hm
    · exact this.1.2 hm
    · rw [hX i hm] at this; exact absurd this.1.1 (by simp)) (List.Pairwise.filter _ List.nodup_range)
  exact ⟨dec', E', hK, hV', hE'⟩
theorem stage_any (hA : A = ancL ops.toList []) (hok : drawOk P n ops A = true) {Q : Exit → Act → World → Prop} {K : EW} {e0 : Env} (hK : ∀ a e' w, Fits n a e' → agr (ops.toList.filterMap (·.dst)) e0 e' → K e' w → Q .normal a w) :
    ∀ (F : Nat) (L : Array Bool) (a : Act) (w : World) (f : Nat) (R X : List Nat) (dec : List (Nat × Bool)) (E : Env), MI n ops L a (R ++ X) X E e0 → VI P n ops A (fun k => L.getD k false = true) R X dec E e0 w →
    (∀ i, i < ops.size → isRd P ops i = true → (∀ x, x < ops.size → isRd P ops x = false → bf A x i = true → x ∈ X) → i ∈ R) → stage P n ops A f R X dec E w K → unl ops L ≤ F → wpAny P .any ops Q F L a w := by
  obtain ⟨hsel, hself, hdown, htmp⟩ := drawOk_spec hok
  have done : ∀ (L : Array Bool) (a : Act) (w : World) (f : Nat) (R X : List Nat) (dec : List (Nat × Bool)) (E : Env), MI n ops L a (R ++ X) X E e0 → VI P n ops A (fun k => L.getD k false = true) R X dec E e0 w → stage P n ops A f R X dec E w K →
      Region.ready .any ops L = [] → Q .normal a w := fun L a w f R X dec E hM hV hst hr => by
    have hall : ∀ i, i < ops.size → L.getD i false = true := by
      intro i
      induction i using Nat.strongRecOn with
      | _ i ih =>
        intro hi
        cases hL : L.getD i false with
        | true => rfl
        | false =>
          have : i ∈ Region.ready .any ops L := by
            rw [mem_ready]
            refine ⟨?_, ops[i], Array.getElem?_eq_getElem hi, fun e he hb => ?_⟩
            · have hlt : i < L.size := by rw [hM.lsize]; exact hi
              simpa [hlt] using hL
            · have := hdown i ops[i] (Array.getElem?_eq_getElem hi) e he hb
              exact ih e.on this (by omega)
          rw [hr] at this
          cases this
    have hX0 : newX P ops A X = [] := by
      rw [newX, List.filter_eq_nil_iff]
      intro x hx hp
      simp only [Bool.and_eq_true, Bool.not_eq_true', List.contains_eq_mem, decide_eq_false_iff_not] at hp
      rcases List.mem_append.1 (hM.sub x (hall x (List.mem_range.1 hx))) with hm | hm
      · rw [hV.inR x hm] at hp; exact absurd hp.1.1 (by simp)
      · exact hp.1.2 hm
    unfold stage at hst
    rw [hX0] at hst
    simp only at hst
    split at hst
    · refine hK a E w ⟨hM.size, hM.defers, fun t => ?_⟩ (fun t ht => hV.base t fun k _ hk => ht ?_) hst
      rotate_left
      · unfold dstOf at hk
        cases hop : ops[k]? with
        | none => rw [hop] at hk; cases hk
        | some o =>
          rw [hop] at hk
          exact List.mem_filterMap.2 ⟨o, by simpa using Array.mem_of_getElem? hop, hk⟩
      by_cases hex : ∃ k, dstOf ops k = some t
      · obtain ⟨k, hk⟩ := hex
        exact hM.slot1 t k (hall k (dst_lt hk)) hk
      · rw [hM.slot0 t fun k _ hk => hex ⟨k, hk⟩]
        exact (hV.base t fun k _ hk => hex ⟨k, hk⟩).symm
    · exact hst.elim
  intro F
  induction F with
  | zero =>
    intro L a w f R X dec E hM hV hmax hst hF
    have hr : Region.ready .any ops L = [] := by
      cases hrr : Region.ready .any ops L with
      | nil => rfl
      | cons i r =>
        have : i ∈ Region.ready .any ops L := by rw [hrr]; simp
        obtain ⟨hL, o, ho, _⟩ := mem_ready.1 this
        have hi : i < ops.size := (Array.getElem?_eq_some_iff.1 ho).1
        have hlt : i < L.size := by rw [hM.lsize]; exact hi
        have : i ∈ (List.range ops.size).filter fun i => !L.getD i false := List.mem_filter.2 ⟨List.mem_range.2 hi, by simp [hlt] at hL ⊢; exact hL⟩
        have := List.length_pos_of_mem this
        unfold unl at hF
        omega
    exact ⟨hr, done L a w f R X dec E hM hV hst hr⟩
  | succ F ih =>
    intro L a w f R X dec E hM hV hmax hst hF
    refine ⟨done L a w f R X dec E hM hV hst, fun i hi => ?_⟩
    obtain ⟨hLt, o, ho, hedge⟩ := mem_ready.1 hi
    have hio : i < ops.size := (Array.getElem?_eq_some_iff.1 ho).1
    have hlt : i < L.size := by rw [hM.lsize]; exact hio
    have hL : L.getD i false = false := by simpa [hlt] using hLt
    have hF' : unl ops (L.setIfInBounds i true) ≤ F := by
      have : unl ops (L.setIfInBounds i true) < unl ops L := by
        refine filter_less (fun x _ hx => ?_) ⟨i, List.mem_range.2 hio, by simp [hL], by simp [hlt]⟩
        simp only [Bool.not_eq_true'] at hx ⊢
        cases hxx : L.getD x false
        · rfl
        · rw [(getD_set_iff hlt).2 (.inr hxx)] at hx; cases hx
      omega
    by_cases hiR : i ∈ R
    · -- a reading operation whose value is known
      have hrdy := hV.rdy i hiR (by rw [hL]; simp)
      obtain ⟨o', d, er, ho', hd, h1, h2, h3, h4⟩ := hrdy.out
      rw [ho] at ho'; cases ho'
      have hag : ∀ t ∈ looks ops i, ae a t = er t := fun t ht => by
        obtain ⟨m1, m2⟩ := hM.at_ hA hok ho hL hedge ht
        by_cases hex : ∃ k, dstOf ops k = some t ∧ bf A k i = true
        · obtain ⟨k, hk, hb'⟩ := hex
          rw [m1 k hk hb', h2 t ht k hk hb']
        · have hno : ∀ k, dstOf ops k = some t → k ≠ i → bf A k i = false := fun k hk _ => by
            cases hbb : bf A k i
            · rfl
            · exact (hex ⟨k, hk, hbb⟩).elim
          rw [m2 hno, h3 t ht hno]
      obtain ⟨c1, c2⟩ := looks_congr hsel ho hag
      have hnext : wpAny P .any ops Q F (L.setIfInBounds i true) (a.put o.dst (E d)) w := by
        refine ih _ _ w f R X dec E (hM.step hok ho hedge (fun d' hd' => by rw [hd] at hd'; cases hd'; rfl) (fun _ _ => rfl) (fun _ h => h) (by simp [hiR]) (fun k hk => .inl hk)) ?_ hmax hst hF'
        exact ⟨hV.base, hV.dec, hV.inR, hV.inX, fun r hr hS => hV.rdy r hr fun hS' => hS ((getD_set_iff hlt).2 (.inr hS'))⟩
      unfold wpOp
      simp only [ho]
      rcases h4 with ⟨hw, hrun⟩ | ⟨hw, hv⟩
      · rw [if_pos (by rw [yvs_ae, c2]; exact hw)]
        refine .inl ?_
        unfold Oper.wp
        rw [ev_ae, c1, hrun]
        exact hnext
      · rw [if_neg (by rw [yvs_ae, c2, hw]; simp), ← hv]
        exact hnext
    · -- an effect
      have hclos : ∀ k, bf A k i = true → L.getD k false = true := fun k hk => by
        subst hA
        exact bf_closed (S := fun j => L.getD j false = true) hM.cl (fun o' ho' e he hb => by rw [ho] at ho'; cases ho'; exact hedge e he hb) hk
      have hXof : ∀ x, isRd P ops x = false → L.getD x false = true → x ∈ X := fun x hx hLx => by
        rcases List.mem_append.1 (hM.sub x hLx) with hm | hm
        · rw [hV.inR x hm] at hx; cases hx
        · exact hm
      have hnr : isRd P ops i = false := by
        cases hh : isRd P ops i
        · rfl
        · exact (hiR (hmax i hio hh fun x _ hx hb => hXof x hx (hclos x hb))).elim
      have hiX : i ∉ X := fun h => by rw [hM.eff i h] at hL; cases hL
      have hiE : i ∉ R ++ X := fun h => by rcases List.mem_append.1 h with h | h; exact hiR h; exact hiX h
      have hnew : i ∈ newX P ops A X := by
        refine List.mem_filter.2 ⟨List.mem_range.2 hio, ?_⟩
        simp only [hnr, Bool.not_false, Bool.true_and, Bool.and_eq_true, Bool.not_eq_true', List.contains_eq_mem, decide_eq_false_iff_not, List.all_eq_true, Bool.or_eq_true, decide_eq_true_eq]
        refine ⟨hiX, fun y hy => ?_⟩
        cases hyr : isRd P ops y
        · cases hyb : bf A y i
          · exact .inl (.inr rfl)
          · exact .inr (hXof y hyr (hclos y hyb))
        · exact .inl (.inl rfl)
      have hst' : conj ((newX P ops A X).map fun x => match ops[x]? with
          | none => False
          | some o => if okAt ops A (R ++ X) x then vcGd P n ops o (R ++ X) dec E (fun dec e => vcOp P o e w fun v w' => vcDr P n ops A f R (x :: X) (some x) dec (put n e o.dst v) w' K) (fun dec e => vcDr P n ops A f R (x :: X) (some x) dec (put n e o.dst undef) w K) else False) := by
        unfold stage at hst
        split at hst
        · rename_i hnil; rw [hnil] at hnew; cases hnew
        · exact hst
      have hx := conj_out hst' (List.mem_map.2 ⟨i, hnew, rfl⟩)
      rw [ho] at hx
      simp only at hx
      split at hx
      · rename_i hat
        obtain ⟨dec', hdec', hgd⟩ := vcGd_out hx hV.dec
        have hag : ∀ t ∈ looks ops i, ae a t = E t := fun t ht => by
          obtain ⟨m1, m2⟩ := hM.at_ hA hok ho hL hedge ht
          by_cases hex : ∃ k, dstOf ops k = some t ∧ bf A k i = true
          · obtain ⟨k, hk, hb'⟩ := hex
            exact m1 k hk hb'
          · have hno : ∀ k, dstOf ops k = some t → k ≠ i → bf A k i = false := fun k hk _ => by
              cases hbb : bf A k i
              · rfl
              · exact (hex ⟨k, hk, hbb⟩).elim
            rw [m2 hno]
            refine (hV.base t fun k hk hkt => ?_).symm
            have hki : k ≠ i := fun e => hiE (e ▸ hk)
            rcases (htmp k i t hkt hki hio).2 ht with h1' | h1'
            · rw [hno k hkt hki] at h1'; cases h1'
            · exact (okAt_spec hat).2 k hk h1' t hkt ht
        obtain ⟨c1, c2⟩ := looks_congr hsel ho hag
        have hsub : ∀ k ∈ R ++ X, k ∈ R ++ i :: X := fun k hk => by
          rcases List.mem_append.1 hk with hk | hk
          · exact List.mem_append_left _ hk
          · exact List.mem_append_right _ (List.mem_cons_of_mem _ hk)
        have hnext : ∀ v w', vcDr P n ops A f R (i :: X) (some i) dec' (put n E o.dst v) w' K → wpAny P .any ops Q F (L.setIfInBounds i true) (a.put o.dst v) w' := fun v w' hdr => by
          have hpo := put_other hok hiE ho v (E := E)
          cases f with
          | zero => exact hdr.elim
          | succ f =>
            obtain ⟨dec2, E2, hst2, hV2, hE2⟩ := vcDr_stage (S := fun k => (L.setIfInBounds i true).getD k false = true) hok hdr (base_put hV.base ho v hsub (by simp)) (hdec'.put hok hiE ho v hsub) hV.inR
              (fun k hk => by rcases List.mem_cons.1 hk with rfl | hk; exact hnr; exact hV.inX k hk)
              (fun r hr hS _ => ⟨w, (hV.rdy r hr fun hS' => hS ((getD_set_iff hlt).2 (.inr hS'))).keep hok (by simp [hr]) hpo hsub⟩)
              (fun r hr hS l hl => by
                cases hl
                cases hb : bf A r i
                · rfl
                · exact (hS ((getD_set_iff hlt).2 (.inr (hclos r hb)))).elim) (fun h => by cases h)
            refine ih _ _ w' f _ (i :: X) dec2 E2 (hM.step hok ho hedge (fun d hd => ?_) (fun t ⟨k, hk, hkt⟩ => ?_) (fun k hk => ?_) (by simp) (fun k hk => by rcases List.mem_cons.1 hk with rfl | hk; exact .inr rfl; exact .inl hk)) hV2 (fun j hj hjr hjx => ?_) hst2 hF'
            · rw [hE2 d ⟨i, by simp, by simp [dstOf, ho, hd]⟩, hd, put_lt (hself i d (by simp [dstOf, ho, hd])).1]
              simp
            · rw [hE2 t ⟨k, hsub k hk, hkt⟩]
              exact hpo t ⟨k, hk, hkt⟩
            · rcases List.mem_append.1 hk with hk | hk
              · simp [hk]
              · simp [hk]
            · by_cases hjR : j ∈ R
              · exact List.mem_append_right _ hjR
              · refine List.mem_append_left _ (List.mem_reverse.2 (List.mem_filter.2 ⟨List.mem_range.2 hj, ?_⟩))
                simp only [hjr, Bool.true_and, Bool.and_eq_true, Bool.not_eq_true', List.contains_eq_mem, decide_eq_false_iff_not, List.all_eq_true, Bool.or_eq_true, decide_eq_true_eq]
                refine ⟨hjR, fun y hy => ?_⟩
                cases hyr : isRd P ops y
                · cases hyb : bf A y j
                  · exact .inl (.inr rfl)
                  · exact .inr (hjx y (List.mem_range.1 hy) hyr hyb)
                · exact .inl (.inl rfl)
        unfold wpOp
        simp only [ho]
        rcases hgd with ⟨hw, hrun⟩ | ⟨hw, hskip⟩
        · rw [if_pos (by rw [yvs_ae, c2]; exact hw)]
          exact .inl (vcOp_wp (by rw [ev_ae]; exact c1) hrun fun v w' hv => hnext v w' hv)
        · rw [if_neg (by rw [yvs_ae, c2, hw]; simp)]
          exact hnext undef w hskip
      · exact hx.elim
end
theorem vcDraw_ok {P : Program} (hm : P.follows .mixedOrders = true) {n : Nat} : ∀ (id : Nat) (ops : Array Oper) a e w (K : EW) (Q : Exit → Act → World → Prop), Fits n a e → vcDraw P n ops e w K → (∀ a e' w, Fits n a e' → agr (ops.toList.filterMap (·.dst)) e e' → K e' w → Q .normal a w) → (Code.region id ops true).wp P Q a w := by
  intro id ops a e w K Q hf h hK
  unfold vcDraw at h
  split at h
  · rename_i hok
    have h := h _ rfl
    refine wp_region_any hm ?_
    obtain ⟨dec', E', hst, hV, hE⟩ := vcDr_stage (S := fun k => (Array.replicate ops.size false).getD k false = true) hok h (e0 := e) (fun _ _ => rfl) (fun j c hl => by simp at hl) (fun k hk => by cases hk) (fun k hk => by cases hk) (fun r hr => by cases hr) (fun r hr => by cases hr) (fun _ => rfl)
    have hno : ∀ k, ¬ (Array.replicate ops.size false).getD k false = true := fun k => by
      simp [Array.getD_eq_getD_getElem?, Array.getElem?_replicate]
      split <;> simp
    refine stage_any rfl hok hK ops.size _ a _ _ _ [] dec' E' ⟨hf.size, hf.defers, by simp, fun t k hk => (hno k hk).elim, fun t _ => hf.slot t, fun k hk => (hno k hk).elim, fun k hk => (by cases hk), fun i hi => (hno i hi).elim⟩ hV (fun i hi hir hx => ?_) hst ?_
    · refine List.mem_append_left _ (List.mem_reverse.2 (List.mem_filter.2 ⟨List.mem_range.2 hi, ?_⟩))
      simp only [hir, Bool.true_and, Bool.and_eq_true, Bool.not_eq_true', List.contains_eq_mem, decide_eq_false_iff_not, List.all_eq_true, Bool.or_eq_true, decide_eq_true_eq]
      refine ⟨by simp, fun y hy => ?_⟩
      cases hyr : isRd P ops y
      · cases hyb : bf (ancL ops.toList []) y i
        · exact .inl (.inr rfl)
        · exact .inr (hx y (List.mem_range.1 hy) hyr hyb)
      · exact .inl (.inl rfl)
    · unfold unl
      exact Nat.le_trans (List.length_filter_le _ _) (by simp)
  · exact h.elim

def bodyOf (f : Func) : Code := f.body.getD .skip
/-- What is asked, so that a call of a function ends in R. -/
def vcF (P : Program) (fn : Func) (p : Ann) (args : List Value) (w : World) (R : Ending → World → Prop) : Prop :=
  vcCode P fn.ntmps (vcDraw P fn.ntmps) (bodyOf fn) p (env0 args) w (fun e w => retVC P fn.results.toList [] e w fun v => R (.returned v) w) (fun _ _ _ => False) (fun e w => retVC P fn.results.toList [] e w fun v => R (.returned v) w)
theorem calls_vcF {P : Program} (hm : P.follows .mixedOrders = true) {f : FuncId} {fn : Func} {args : List Value} {w : World} {R : Ending → World → Prop} (p : Ann)
    (hf : P.funcs[f]? = some fn) (hb : fn.body.isSome = true) (hn : Nat.ble args.length fn.ntmps = true) {X : Prop} (h : X) (hX : X = vcF P fn p args w R) : Calls P f args.toArray w R := by
  rw [hX] at h
  refine calls_of_vc (p := p) (vcDraw_ok hm) hf (c := bodyOf fn) ?_ (Nat.le_of_ble_eq_true hn) h
  unfold bodyOf
  cases hh : fn.body with
  | none => rw [hh] at hb; cases hb
  | some c => rfl
end Go.Sk
