/- Own ground: what is asked of an operation, of a region, of code. -/
import Derived.Test.YtnkdccidhjifmaaGreatVc
set_option linter.unusedVariables false
set_option linter.unusedSimpArgs false
namespace Go.Sk
open Go.RowKit

def nc (p : Option Addr) (K : Addr → Prop) : Prop := match p with | some ad => K ad | none => False
def ixAt (p : Option Addr) (n : Int) (l : Nat) (K : Addr → Prop) : Prop := match p with | some ad => (0 ≤ n ∧ n < l) ∧ K ad | none => False
def bAnd (k : IntKind) (a b : Int) : Int := k.wrap ((BitVec.ofInt k.bits a &&& BitVec.ofInt k.bits b).toNat : Int)
def bOr (k : IntKind) (a b : Int) : Int := k.wrap ((BitVec.ofInt k.bits a ||| BitVec.ofInt k.bits b).toNat : Int)
def bXor (k : IntKind) (a b : Int) : Int := k.wrap ((BitVec.ofInt k.bits a ^^^ BitVec.ofInt k.bits b).toNat : Int)
def bClr (k : IntKind) (a b : Int) : Int := k.wrap ((BitVec.ofInt k.bits a &&& ~~~(BitVec.ofInt k.bits b)).toNat : Int)
def shlI (k : IntKind) (m n : Int) : Int := k.wrap (m * 2 ^ min n.toNat k.bits)
def shrI (k : IntKind) (m n : Int) : Int := m.fdiv (2 ^ min n.toNat k.bits)
def eqRun (P : Program) (op : BinOp) (T : TypeId) (x y : Operand) (a b : Value) (w : World) (r : Bool) : Prop := (do eqGuard op T x y a b; binOp op T a b : Sem Value).run P w = .ok (.bool r) w
def isC : Operand → Bool
  | .const _ => true
  | _ => false
/-- A condition: of a literal it is decided, else it is asked. -/
def need (c : Bool) (p : Prop) [Decidable p] (q : Prop) : Prop := if c then (if p then q else False) else p ∧ q
theorem need_out {c : Bool} {p : Prop} [Decidable p] {q : Prop} (h : need c p q) : p ∧ q := by
  unfold need at h
  split at h
  · split at h
    · exact ⟨‹_›, h⟩
    · exact h.elim
  · exact h
def nilQ : Value → (Bool → Prop) → Prop
  | .nilIface, K => K true
  | .iface _ _, K => K false
  | _, _ => False
def bodyB (P : Program) (f : FuncId) : Bool := match P.funcs[f]? with | some fn => fn.body.isSome && !(fn.name == "runtime.NumGoroutine") | none => false
theorem bodyB_run {P : Program} {f : FuncId} (h : bodyB P f = true) (args : Array Value) (w : World) : (callFunc f args).run P w = .ok (.enter f args) w := by
  unfold bodyB at h
  cases hf : P.funcs[f]? with
  | none => simp [hf] at h
  | some fn =>
    simp only [hf, Bool.and_eq_true, Bool.not_eq_true'] at h
    have hb : fn.body.isNone = false := by cases hh : fn.body <;> simp_all
    have hn : ¬ fn.body = none := by cases hh : fn.body <;> simp_all
    have h2 : ¬ fn.name = "runtime.NumGoroutine" := by simpa using h.2
    simp [callFunc, hf, h2, hn]
def runV (P : Program) (z : Value) (s : Sem Value) (w : World) (K : Value → World → Prop) : Prop := shapeEx 100 z fun v => ∃ w', s.run P w = .ok v w' ∧ K v w'
def runU (P : Program) (s : Sem Unit) (w : World) (K : World → Prop) : Prop := ∃ w', s.run P w = .ok () w' ∧ K w'
def enterVC (P : Program) (g : FuncId) (args : Array Value) (z : Value) (w : World) (K : Value → World → Prop) : Prop :=
  Calls P g args w fun e w' => shapeEx 100 z fun v => e = .returned v ∧ K v w'
def callVC (P : Program) (f : Value) (args : List Value) (z : Value) (w : World) (K : Value → World → Prop) : Prop :=
  match f with
  | .func (.func g) fst cap => if bodyB P g then enterVC P g (fst.toList ++ (args ++ cap.toList)).toArray z w K else runV P z (do match ← callFunc g (fst.toList ++ (args ++ cap.toList)).toArray with | .value v => pure v | _ => stuck "") w K
  | _ => False
def invokeVC (P : Program) (recv : Value) (name : String) (args : List Value) (z : Value) (w : World) (K : Value → World → Prop) : Prop :=
  ∃ (t : TypeId) (v : Value) (g : FuncId) (rv : Value), recv = .iface t v ∧ (method (P.types.size + Made.depth) t v name).run P w = .ok (g, rv) w ∧ bodyB P g = true ∧ enterVC P g (rv :: args).toArray z w K
def builtinVC (P : Program) (b : Builtin) (ats : Array TypeId) (t : TypeId) (args : List Value) (z : Value) (w : World) (K : Value → World → Prop) : Prop :=
  match b, args with
  | .len, [.slice _ n _] => (match ats[0]? with | some at_ => (match P.underlying at_ with | some (.slice _) => K (.int .i64 n) w | _ => False) | none => False)
  | .len, [.string s] => (match ats[0]? with | some at_ => (match P.underlying at_ with | some .string => K (.int .i64 s.size) w | _ => False) | none => False)
  | .append, _ => runV P z (Builtin.append_ ats t args.toArray) w K
  | .cap, _ => runV P z (Builtin.cap_ ats t args.toArray) w K
  | .clear, _ => runV P z (Builtin.clear_ ats t args.toArray) w K
  | .copy, _ => runV P z (Builtin.copy_ ats t args.toArray) w K
  | .delete, _ => runV P z (Builtin.delete_ ats t args.toArray) w K
  | .len, _ => runV P z (Builtin.len_ ats t args.toArray) w K
  | .max, _ => runV P z (Builtin.max_ ats t args.toArray) w K
  | .min, _ => runV P z (Builtin.min_ ats t args.toArray) w K
  | _, _ => False
def eqOpen (P : Program) (op : BinOp) (T : TypeId) (x y : Operand) (a b : Value) (w : World) (K : Value → World → Prop) : Prop :=
  ∃ r : Bool, (do eqGuard op T x y a b; binOp op T a b).run P w = .ok (.bool r) w ∧ K (.bool r) w
def openEq (P : Program) (op : BinOp) (T : TypeId) (y : Operand) : Bool :=
  (match op with | .eql => true | .neq => true | _ => false) && ((match P.underlying T with | some (.interface _) => true | _ => false) && (match y with | .const .nilIface => false | _ => true))
def binVC0 (P : Program) (op : BinOp) (T : TypeId) (x y : Operand) (a b : Value) (w : World) (K : Value → World → Prop) : Prop :=
  match op, a, b with
  | .shl, .int k m, .int _ n => need (isC y) (0 ≤ n) (K (.int k (k.wrap (m * 2 ^ min n.toNat k.bits))) w)
  | .shr, .int k m, .int _ n => need (isC y) (0 ≤ n) (K (.int k (m.fdiv (2 ^ min n.toNat k.bits))) w)
  | .quo, .int k m, .int k' n => if k = k' then need (isC y) (n ≠ 0) (K (.int k (k.wrap (m.tdiv n))) w) else False
  | .rem, .int k m, .int k' n => if k = k' then need (isC y) (n ≠ 0) (K (.int k (m.tmod n)) w) else False
  | .eql, .pointer p, .pointer none => (match P.underlying T with | some (.pointer _) => K (.bool p.isNone) w | _ => False)
  | .neq, .pointer p, .pointer none => (match P.underlying T with | some (.pointer _) => K (.bool (!p.isNone)) w | _ => False)
  | .eql, .slice p l c, .slice none _ _ => (match P.underlying T with | some (.slice _) => K (.bool p.isNone) w | _ => False)
  | .neq, .slice p l c, .slice none _ _ => (match P.underlying T with | some (.slice _) => K (.bool (!p.isNone)) w | _ => False)
  | .eql, .int _ _, .int _ _ => vc P (binOp op T a b) K w
  | .neq, .int _ _, .int _ _ => vc P (binOp op T a b) K w
  | .eql, .bool _, .bool _ => vc P (binOp op T a b) K w
  | .neq, .bool _, .bool _ => vc P (binOp op T a b) K w
  | .eql, .string _, .string _ => vc P (binOp op T a b) K w
  | .neq, .string _, .string _ => vc P (binOp op T a b) K w
  | .eql, v, .nilIface => if isC y then nilQ v (fun r => (match P.underlying T with | some (.interface _) => K (.bool r) w | _ => False)) else ∃ r : Bool, (do eqGuard op T x y a b; binOp op T a b).run P w = .ok (.bool r) w ∧ K (.bool r) w
  | .neq, v, .nilIface => if isC y then nilQ v (fun r => (match P.underlying T with | some (.interface _) => K (.bool (!r)) w | _ => False)) else ∃ r : Bool, (do eqGuard op T x y a b; binOp op T a b).run P w = .ok (.bool r) w ∧ K (.bool r) w
  | .eql, _, _ => ∃ r : Bool, (do eqGuard op T x y a b; binOp op T a b).run P w = .ok (.bool r) w ∧ K (.bool r) w
  | .neq, _, _ => ∃ r : Bool, (do eqGuard op T x y a b; binOp op T a b).run P w = .ok (.bool r) w ∧ K (.bool r) w
  | _, .int _ _, .int _ _ => vc P (binOp op T a b) K w
  | _, .string _, .string _ => vc P (binOp op T a b) K w
  | _, _, _ => False
def nilEq (P : Program) (op : BinOp) (T : TypeId) (y : Operand) : Bool :=
  (match op with | .eql => true | .neq => true | _ => false) && ((match P.underlying T with | some (.interface _) => true | _ => false) && (match y with | .const .nilIface => true | _ => false))
def nilR (op : BinOp) (r : Bool) : Bool := match op with | .eql => r | _ => !r
def binVC (P : Program) (op : BinOp) (T : TypeId) (x y : Operand) (a b : Value) (w : World) (K : Value → World → Prop) : Prop :=
  if openEq P op T y = true then eqOpen P op T x y a b w K else
  if nilEq P op T y = true then nilQ a (fun r => K (.bool (nilR op r)) w) else binVC0 P op T x y a b w K
def fieldVC (P : Program) (T : TypeId) (x : Value) (f : Nat) (w : World) (K : Value → World → Prop) : Prop :=
  match P.underlying T, x with
  | some (.struct fs), .pointer (some ad) => (match fs[f]? with | some fd => (match tySize P fd.type with | some (_ + 1) => K (.pointer (some (ad.add fd.offset))) w | _ => False) | none => False)
  | _, _ => False
def convVC (P : Program) (src dst : TypeId) (x : Value) (z : Value) (w : World) (K : Value → World → Prop) : Prop :=
  match x, P.underlying src, P.underlying dst with
  | .int _ _, _, _ => vc P (convert src dst x) K w
  | _, some (.int _), some (.int _) => False
  | _, _, _ => runV P z (convert src dst x) w K
def cellsOf? (P : Program) (t : TypeId) : Nat := (tySize P t).getD 0
def indexVC (P : Program) (T : TypeId) (x i : Value) (ci : Bool) (w : World) (K : Value → World → Prop) : Prop :=
  match P.underlying T, x, i with
  | some (.slice el), .slice b l c, .int k n => (match tySize P el with | some sz => ixAt b n l (fun ad => K (.pointer (some (ad.add (n.toNat * sz)))) w) | none => False)
  | some (.array len el), .pointer (some ad), .int k n => (match tySize P el with | some sz => need ci (0 ≤ n ∧ n < len) (K (.pointer (some (ad.add (n.toNat * sz)))) w) | none => False)
  | _, _, _ => False
def sliceVC (P : Program) (T : TypeId) (x : Value) (lo hi mx : Option Value) (z : Value) (w : World) (K : Value → World → Prop) : Prop :=
  match P.underlying T, x, lo, hi, mx with
  | some (.slice el), .slice b l c, some (.int _ i), some (.int _ j), none =>
    (match tySize P el with | some sz => (0 ≤ i ∧ i ≤ j ∧ j ≤ c) ∧ K (.slice (if c = i.toNat then b else b.map (·.add (i.toNat * sz))) (j.toNat - i.toNat) (c - i.toNat)) w | none => False)
  | some (.slice el), .slice b l c, some (.int _ i), none, none =>
    (match tySize P el with | some sz => (0 ≤ i ∧ i ≤ l) ∧ K (.slice (if c = i.toNat then b else b.map (·.add (i.toNat * sz))) (l - i.toNat) (c - i.toNat)) w | none => False)
  | some (.slice el), .slice b l c, none, some (.int _ j), none =>
    (match tySize P el with | some sz => (0 ≤ j ∧ j ≤ c) ∧ K (.slice b j.toNat c) w | none => False)
  | _, _, _, _, _ => runV P z (Instr.sliceAt T x lo hi mx) w K
def vcOp (P : Program) (o : Oper) (e : Env) (w : World) (K : Value → World → Prop) : Prop :=
  match o.op with
  | .load t a => (match ev e a with | .pointer (some ad) => ldEx P t ad w (fun v => K v w) | _ => False)
  | .store t a x => (match ev e a with | .pointer (some ad) => stVC P t ad (ev e x) w (K undef) | _ => False)
  | .nilCheck x => (match ev e x with | .pointer p => nc p (fun ad => K (.pointer (some ad)) w) | .nilIface => False | .nilFunc => False | .func (.func g) fs cs => K (.func (.func g) fs cs) w | .func _ _ _ => False | .iface t v => K (.iface t v) w | _ => False)
  | .indexAddr T x i => indexVC P T (ev e x) (ev e i) (isC i) w K
  | .slice T x lo hi mx => sliceVC P T (ev e x) (lo.map (ev e)) (hi.map (ev e)) (mx.map (ev e)) (tyZero P o.type) w K
  | .binOp op T x y _ => binVC P op T x y (ev e x) (ev e y) w K
  | .call c => (match c.callee with
    | .value f => callVC P (ev e f) (c.args.toList.map (ev e)) (tyZero P o.type) w K
    | .invoke r name => invokeVC P (ev e r) name (c.args.toList.map (ev e)) (tyZero P o.type) w K
    | .builtin b => builtinVC P b c.argTypes o.type (c.args.toList.map (ev e)) (tyZero P o.type) w K)
  | .lookup T m k ok => runV P (tyZero P o.type) (Instr.lookup T (ev e m) (ev e k) ok) w K
  | .mapUpdate T m k x => runU P (Instr.mapUpdate T (ev e m) (ev e k) (ev e x)) w (K undef)
  | .makeSlice T l c => runV P (tyZero P o.type) (Instr.makeSlice T (ev e l) (ev e c)) w K
  | .range T x => runV P (.pointer none) (Instr.range T (ev e x)) w K
  | .next it s => runV P (tyZero P o.type) (Instr.next (ev e it) s o.type) w K
  | .entry it => runV P (tyZero P o.type) (Instr.entry (ev e it)) w K
  | .index T x i => runV P (tyZero P o.type) (Instr.index T (ev e x) (ev e i)) w K
  | .typeAssert x xt at_ ok => runV P (tyZero P o.type) (Instr.typeAssert (ev e x) xt at_ ok) w K
  | .convert src dst x => convVC P src dst (ev e x) (tyZero P o.type) w K
  | .fieldAddr T x f => fieldVC P T (ev e x) f w K
  | .move x => K (ev e x) w
  | .assign x => K (ev e x) w
  | .defer _ => False
  | .go _ => False
  | _ => vc P (execOp (ev e) o) (fun r w' => match r with | .value v => K v w' | _ => False) w

theorem runV_out {P : Program} {z : Value} {s : Sem Value} {w : World} {K : Value → World → Prop} (h : runV P z s w K) : ∃ v w', s.run P w = .ok v w' ∧ K v w' :=
  let ⟨v, w', h⟩ := shapeEx_out _ _ _ h; ⟨v, w', h⟩
theorem enter_wp {P : Program} {o : Oper} {a : Act} {g : FuncId} {args : Array Value} {z : Value} {w : World} {K : Value → World → Prop} {next : Act → World → Prop} {Q : Exit → Act → World → Prop}
    (h : enterVC P g args z w K) (hK : ∀ v w', K v w' → next (a.put o.dst v) w') : o.upon P a next Q (.ok (.enter g args) w) := by
  refine Calls.mono h fun e w' he => ?_
  obtain ⟨v, rfl, hv⟩ := shapeEx_out _ _ _ he
  exact hK v w' hv
theorem value_wp {P : Program} {o : Oper} {a : Act} {w : World} {next : Act → World → Prop} {Q : Exit → Act → World → Prop} {s : Sem Value} {v : Value} {w' : World}
    (h : s.run P w = .ok v w') (hn : next (a.put o.dst v) w') : o.upon P a next Q ((do pure (Next.value (← s))).run P w) := by
  simp only [Sem.run_bind, h, Result.andThen_ok, Sem.run_pure]
  exact hn

theorem equal_d (T : TypeId) (a b : Value) : Op.equal T a b = Op.equalIn (9999 + 1) T a b := rfl
theorem eq_ptr {P : Program} {T t : TypeId} (hu : P.underlying T = some (.pointer t)) (p : Option Addr) (w : World) : (Op.equal T (.pointer p) (.pointer none)).run P w = .ok p.isNone w := by
  rw [equal_d]
  unfold Op.equalIn
  cases p <;> simp [underlying, hu]
theorem eq_slice {P : Program} {T t : TypeId} (hu : P.underlying T = some (.slice t)) (p : Option Addr) (l c l' c' : Nat) (w : World) : (Op.equal T (.slice p l c) (.slice none l' c')).run P w = .ok p.isNone w := by
  rw [equal_d]
  unfold Op.equalIn
  cases p <;> simp [underlying, hu]
theorem eq_nil {P : Program} {T : TypeId} {ms : Array (String × TypeId)} (hu : P.underlying T = some (.interface ms)) (w : World) : (Op.equal T .nilIface .nilIface).run P w = .ok true w := by
  rw [equal_d]
  unfold Op.equalIn
  simp [underlying, hu]
theorem eq_ifnil {P : Program} {T : TypeId} {ms : Array (String × TypeId)} (hu : P.underlying T = some (.interface ms)) (t : TypeId) (v : Value) (w : World) : (Op.equal T (.iface t v) .nilIface).run P w = .ok false w := by
  rw [equal_d]
  unfold Op.equalIn
  simp [underlying, hu]
theorem bin_eql {P : Program} {T : TypeId} {a b : Value} {w : World} {r : Bool} (h : (Op.equal T a b).run P w = .ok r w) (ha : ∀ k n, a ≠ .int k n) (hf : ∀ k n, a ≠ .float k n) (hc : ∀ k n m, a ≠ .complex k n m) (hs : ∀ s, a ≠ .string s) : (binOp .eql T a b).run P w = .ok (.bool r) w := by
  cases a <;> first | (exact (ha _ _ rfl).elim) | (exact (hf _ _ rfl).elim) | (exact (hc _ _ _ rfl).elim) | (exact (hs _ rfl).elim) | (simp only [binOp, Sem.run_bind, h, Result.andThen_ok, Sem.run_pure])
theorem bin_neq {P : Program} {T : TypeId} {a b : Value} {w : World} {r : Bool} (h : (Op.equal T a b).run P w = .ok r w) (ha : ∀ k n, a ≠ .int k n) (hf : ∀ k n, a ≠ .float k n) (hc : ∀ k n m, a ≠ .complex k n m) (hs : ∀ s, a ≠ .string s) : (binOp .neq T a b).run P w = .ok (.bool (!r)) w := by
  cases a <;> first | (exact (ha _ _ rfl).elim) | (exact (hf _ _ rfl).elim) | (exact (hc _ _ _ rfl).elim) | (exact (hs _ rfl).elim) | (simp only [binOp, Sem.run_bind, h, Result.andThen_ok, Sem.run_pure])
theorem guard_ptr (P : Program) (op : BinOp) (T : TypeId) (x y : Operand) (p : Option Addr) (b : Value) (w : World) : (eqGuard op T x y (.pointer p) b).run P w = .ok () w := by
  cases op <;> simp [eqGuard]
theorem guard_slice (P : Program) (op : BinOp) (T : TypeId) (x y : Operand) (p : Option Addr) (l c : Nat) (b : Value) (w : World) : (eqGuard op T x y (.slice p l c) b).run P w = .ok () w := by
  cases op <;> simp [eqGuard]
theorem guard_nil (P : Program) (op : BinOp) (T : TypeId) (x : Operand) (v : Value) (w : World) : (eqGuard op T x (.const v) .nilIface .nilIface).run P w = .ok () w := by
  cases op <;> simp [eqGuard]
theorem guard_ifnil (P : Program) (op : BinOp) (T : TypeId) (x y : Operand) (t : TypeId) (v b : Value) (w : World) : (eqGuard op T x y (.iface t v) b).run P w = .ok () w := by
  cases op <;> simp [eqGuard]
theorem bin_still_int {P : Program} {op : BinOp} {T : TypeId} {k k' : IntKind} {m n : Int} : Still P (binOp op T (.int k m) (.int k' n)) := by
  cases op <;> simp only [binOp] <;>
    first
      | (unfold Op.shift; split; exact Still.panic _; dsimp only; exact Still.pure _)
      | (split; exact Still.stuck _; first
          | exact Still.pure _
          | (unfold Op.intDiv; split; exact Still.panic _; exact Still.pure _))
theorem bin_still_str {P : Program} {op : BinOp} {T : TypeId} {s t : ByteArray} : Still P (binOp op T (.string s) (.string t)) := by
  cases op <;> simp only [binOp, Op.stringOp] <;> first
    | exact Still.pure _
    | exact Still.stuck _
    | (split; exact Still.unsupported _; exact Still.pure _)
theorem bin_still_bool {P : Program} {op : BinOp} {T : TypeId} {s t : Bool} (h : op = .eql ∨ op = .neq) : Still P (binOp op T (.bool s) (.bool t)) := by
  have he : Still P (Op.equal T (.bool s) (.bool t)) := by
    rw [equal_d]
    unfold Op.equalIn
    refine Still.bind (Still.underlying _) fun d => ?_
    cases d <;> first | exact Still.pure _ | exact Still.stuck _
  rcases h with rfl | rfl
  · exact Still.bind he fun _ => Still.pure _
  · exact Still.bind he fun _ => Still.pure _
theorem binVC_run {P : Program} {op : BinOp} {T : TypeId} {x y : Operand} {a b : Value} {w : World} {K : Value → World → Prop} (h : binVC P op T x y a b w K) (hx : ∀ v, y = .const v → b = v) :
    ∃ v, (do eqGuard op T x y a b; binOp op T a b).run P w = .ok v w ∧ K v w := by
  have plain : (eqGuard op T x y a b).run P w = .ok () w → Still P (binOp op T a b) → vc P (binOp op T a b) K w → ∃ v, (do eqGuard op T x y a b; binOp op T a b).run P w = .ok v w ∧ K v w := fun hg hs hv => by
    obtain ⟨v, w', hr, hK⟩ := vc_run _ hv
    have := hs _ _ _ hr
    subst this
    exact ⟨v, by simp only [Sem.run_bind, hg, Result.andThen_ok, hr], hK⟩
  unfold binVC at h
  split at h
  · obtain ⟨r, hr, hK⟩ := h
    exact ⟨_, hr, hK⟩
  split at h
  · rename_i _ hc
    unfold nilEq at hc
    have hop : op = .eql ∨ op = .neq := by cases op <;> simp_all
    have hT : ∃ ms, P.underlying T = some (.interface ms) := by
      cases hu : P.underlying T with
      | none => simp [hu] at hc
      | some d => cases d <;> simp_all
    obtain ⟨ms, hu⟩ := hT
    have hy : y = .const .nilIface := by
      cases y with
      | const v => cases v <;> simp_all
      | _ => simp_all
    obtain rfl := hx _ hy
    subst hy
    unfold nilQ at h
    split at h
    · rcases hop with rfl | rfl
      · exact ⟨_, by rw [Sem.run_bind, guard_nil]; exact bin_eql (eq_nil hu _) (by simp) (by simp) (by simp) (by simp), h⟩
      · exact ⟨_, by rw [Sem.run_bind, guard_nil]; exact bin_neq (eq_nil hu _) (by simp) (by simp) (by simp) (by simp), h⟩
    · rcases hop with rfl | rfl
      · exact ⟨_, by rw [Sem.run_bind, guard_ifnil]; exact bin_eql (eq_ifnil hu _ _ _) (by simp) (by simp) (by simp) (by simp), h⟩
      · exact ⟨_, by rw [Sem.run_bind, guard_ifnil]; exact bin_neq (eq_ifnil hu _ _ _) (by simp) (by simp) (by simp) (by simp), h⟩
    · exact h.elim
  unfold binVC0 at h
  split at h
  · obtain ⟨h0, hK⟩ := need_out h
    exact ⟨_, by simp [eqGuard, binOp, Op.shift, Int.not_lt.2 h0], hK⟩
  · obtain ⟨h0, hK⟩ := need_out h
    exact ⟨_, by simp [eqGuard, binOp, Op.shift, Int.not_lt.2 h0], hK⟩
  · split at h
    · rename_i hk
      obtain ⟨h0, hK⟩ := need_out h
      exact ⟨_, by simp [eqGuard, binOp, Op.intDiv, hk, h0], hK⟩
    · exact h.elim
  · split at h
    · rename_i hk
      obtain ⟨h0, hK⟩ := need_out h
      exact ⟨_, by simp [eqGuard, binOp, Op.intDiv, hk, h0], hK⟩
    · exact h.elim
  · rename_i p
    split at h
    · rename_i hu
      refine ⟨_, ?_, h⟩
      rw [Sem.run_bind, guard_ptr]
      exact bin_eql (eq_ptr hu _ _) (by simp) (by simp) (by simp) (by simp)
    · exact h.elim
  · rename_i p
    split at h
    · rename_i hu
      refine ⟨_, ?_, h⟩
      rw [Sem.run_bind, guard_ptr]
      exact bin_neq (eq_ptr hu _ _) (by simp) (by simp) (by simp) (by simp)
    · exact h.elim
  · rename_i p l c _ _
    split at h
    · rename_i hu
      refine ⟨_, ?_, h⟩
      rw [Sem.run_bind, guard_slice]
      exact bin_eql (eq_slice hu _ _ _ _ _ _) (by simp) (by simp) (by simp) (by simp)
    · exact h.elim
  · rename_i p l c _ _
    split at h
    · rename_i hu
      refine ⟨_, ?_, h⟩
      rw [Sem.run_bind, guard_slice]
      exact bin_neq (eq_slice hu _ _ _ _ _ _) (by simp) (by simp) (by simp) (by simp)
    · exact h.elim
  · exact plain (by simp [eqGuard]) bin_still_int h
  · exact plain (by simp [eqGuard]) bin_still_int h
  · exact plain (by simp [eqGuard]) (bin_still_bool (.inl rfl)) h
  · exact plain (by simp [eqGuard]) (bin_still_bool (.inr rfl)) h
  · exact plain (by simp [eqGuard]) bin_still_str h
  · exact plain (by simp [eqGuard]) bin_still_str h
  · split at h
    · rename_i hc
      cases y <;> simp [isC] at hc
      unfold nilQ at h
      split at h
      · split at h
        · rename_i hu
          exact ⟨_, by rw [Sem.run_bind, guard_nil]; exact bin_eql (eq_nil hu _) (by simp) (by simp) (by simp) (by simp), h⟩
        · exact h.elim
      · split at h
        · rename_i hu
          exact ⟨_, by rw [Sem.run_bind, guard_ifnil]; exact bin_eql (eq_ifnil hu _ _ _) (by simp) (by simp) (by simp) (by simp), h⟩
        · exact h.elim
      · exact h.elim
    · obtain ⟨r, hr, hK⟩ := h; exact ⟨_, hr, hK⟩
  · split at h
    · rename_i hc
      cases y <;> simp [isC] at hc
      unfold nilQ at h
      split at h
      · split at h
        · rename_i hu
          exact ⟨_, by rw [Sem.run_bind, guard_nil]; exact bin_neq (eq_nil hu _) (by simp) (by simp) (by simp) (by simp), h⟩
        · exact h.elim
      · split at h
        · rename_i hu
          exact ⟨_, by rw [Sem.run_bind, guard_ifnil]; exact bin_neq (eq_ifnil hu _ _ _) (by simp) (by simp) (by simp) (by simp), h⟩
        · exact h.elim
      · exact h.elim
    · obtain ⟨r, hr, hK⟩ := h; exact ⟨_, hr, hK⟩
  · obtain ⟨r, hr, hK⟩ := h; exact ⟨_, hr, hK⟩
  · obtain ⟨r, hr, hK⟩ := h; exact ⟨_, hr, hK⟩
  · refine plain ?_ bin_still_int h
    cases op <;> simp [eqGuard]
  · refine plain ?_ bin_still_str h
    cases op <;> simp [eqGuard]
  · exact h.elim

theorem indexVC_run {P : Program} {T : TypeId} {x i : Value} {ci : Bool} {w : World} {K : Value → World → Prop} (h : indexVC P T x i ci w K) : ∃ v, (Instr.indexAt T x i).run P w = .ok v w ∧ K v w := by
  unfold indexVC at h
  split at h
  · rename_i hu
    split at h
    · rename_i hsz
      unfold ixAt at h
      split at h
      · obtain ⟨⟨h0, h1⟩, hK⟩ := h
        refine ⟨_, ?_, hK⟩
        simp [Instr.indexAt, asIntOf, underlying, hu, h0, h1, tySize_run hsz]
      · exact h.elim
    · exact h.elim
  · rename_i hu
    split at h
    · rename_i hsz
      obtain ⟨⟨h0, h1⟩, hK⟩ := need_out h
      refine ⟨_, ?_, hK⟩
      simp [Instr.indexAt, asIntOf, underlying, hu, h0, h1, tySize_run hsz, Instr.sureAddr]
    · exact h.elim
  · exact h.elim
theorem sliceVC_run {P : Program} {T : TypeId} {x : Value} {lo hi mx : Option Value} {z : Value} {w : World} {K : Value → World → Prop} (h : sliceVC P T x lo hi mx z w K) : ∃ v w', (Instr.sliceAt T x lo hi mx).run P w = .ok v w' ∧ K v w' := by
  unfold sliceVC at h
  split at h
  · rename_i hu
    split at h
    · rename_i hsz
      obtain ⟨⟨h0, h1, h2⟩, hK⟩ := h
      refine ⟨_, w, ?_, hK⟩
      have h3 : (0 : Int) ≤ _ := Int.le_trans h0 h1
      have h4 := Int.toNat_of_nonneg h3
      simp [Instr.sliceAt, Instr.slice, Instr.sliceBounds, Instr.sliceBound, asIntOf, underlying, hu, h0, h2, h3, tySize_run hsz]
      intro hlt
      omega
    · exact h.elim
  · rename_i hu
    split at h
    · rename_i hsz
      obtain ⟨⟨h0, h1⟩, hK⟩ := h
      refine ⟨_, w, ?_, hK⟩
      simp [Instr.sliceAt, Instr.slice, Instr.sliceBounds, Instr.sliceBound, asIntOf, underlying, hu, h0, h1, tySize_run hsz]
    · exact h.elim
  · rename_i hu
    split at h
    · rename_i hsz
      obtain ⟨⟨h0, h1⟩, hK⟩ := h
      refine ⟨_, w, ?_, hK⟩
      simp [Instr.sliceAt, Instr.slice, Instr.sliceBounds, Instr.sliceBound, asIntOf, underlying, hu, h0, h1, tySize_run hsz, Addr.add]
    · exact h.elim
  · exact runV_out h
theorem builtinVC_run {P : Program} {b : Builtin} {ats : Array TypeId} {t : TypeId} {cs : Array Bool} {args : List Value} {z : Value} {w : World} {K : Value → World → Prop} (h : builtinVC P b ats t args z w K) :
    ∃ v w', (builtin b ats t cs args.toArray).run P w = .ok (.value v) w' ∧ K v w' := by
  have go : ∀ {s : Sem Value}, runV P z s w K → ∃ v w', (do pure (Next.value (← s))).run P w = .ok (.value v) w' ∧ K v w' := fun h => by
    obtain ⟨v, w', hr, hK⟩ := runV_out h
    exact ⟨v, w', by simp [hr], hK⟩
  unfold builtinVC at h
  split at h
  · split at h
    · rename_i hat
      split at h
      · rename_i hu
        refine ⟨_, w, ?_, h⟩
        simp [builtin, Builtin.len_, hat, underlying, hu, goInt]
      · exact h.elim
    · exact h.elim
  · split at h
    · rename_i hat
      split at h
      · rename_i hu
        refine ⟨_, w, ?_, h⟩
        simp [builtin, Builtin.len_, hat, underlying, hu, goInt]
      · exact h.elim
    · exact h.elim
  all_goals first | exact go h | exact h.elim
theorem convVC_run {P : Program} {src dst : TypeId} {x z : Value} {w : World} {K : Value → World → Prop} (h : convVC P src dst x z w K) : ∃ v w', (convert src dst x).run P w = .ok v w' ∧ K v w' := by
  unfold convVC at h
  split at h
  · exact vc_run _ h
  · exact h.elim
  · exact runV_out h
theorem convVC_read {P : Program} {src dst : TypeId} {x z : Value} {w : World} {K : Value → World → Prop} {k k' : IntKind} (h1 : P.underlying src = some (.int k)) (h2 : P.underlying dst = some (.int k')) (h : convVC P src dst x z w K) : ∃ v, (convert src dst x).run P w = .ok v w ∧ K v w := by
  unfold convVC at h
  split at h
  · rename_i q n
    obtain ⟨v, w', hr, hK⟩ := vc_run _ h
    have e : (convert src dst (.int q n)).run P w = .ok (.int k' (k'.wrap n)) w := by
      unfold convert
      simp [underlying, h1, h2, Conv.intToInt]
    rw [e] at hr
    cases hr
    exact ⟨_, e, hK⟩
  · exact h.elim
  · rename_i hne
    exact (hne k k' h1 h2).elim
theorem fieldVC_run {P : Program} {T : TypeId} {x : Value} {f : Nat} {w : World} {K : Value → World → Prop} (h : fieldVC P T x f w K) : ∃ v, (Instr.fieldAt T x f).run P w = .ok v w ∧ K v w := by
  unfold fieldVC at h
  split at h
  · rename_i hu
    split at h
    · rename_i fd hfd
      split at h
      · rename_i n hsz
        refine ⟨_, ?_, h⟩
        simp [Instr.fieldAt, underlying, hu, hfd, Instr.sureAddr, fieldPlace, tySize_run hsz]
      · exact h.elim
    · exact h.elim
  · exact h.elim
theorem enter_upon {P : Program} {o : Oper} {a : Act} {next : Act → World → Prop} {Q : Exit → Act → World → Prop} {r : Result Next} {g : FuncId} {args : Array Value} {z : Value} {w w0 : World} {K : Value → World → Prop}
    (hr : r = .ok (.enter g args) w) (h : enterVC P g args z w K) (hK : ∀ v w', K v w' → next (a.put o.dst v) w') : o.upon P a next Q r := by
  subst hr
  exact enter_wp h hK
theorem value_upon {P : Program} {o : Oper} {a : Act} {next : Act → World → Prop} {Q : Exit → Act → World → Prop} {r : Result Next} {v : Value} {w' : World} (hr : r = .ok (.value v) w') (hn : next (a.put o.dst v) w') : o.upon P a next Q r := by
  subst hr
  exact hn
theorem skip_upon {P : Program} {o : Oper} {a : Act} {next : Act → World → Prop} {Q : Exit → Act → World → Prop} {r : Result Next} {w' : World} (hr : r = .ok .skip w') (hn : next (a.put o.dst undef) w') : o.upon P a next Q r := by
  subst hr
  exact hn

theorem vcOp_wp {P : Program} {o : Oper} {a : Act} {e : Env} {w : World} {K : Value → World → Prop} {next : Act → World → Prop} {Q : Exit → Act → World → Prop}
    (he : execOp a.eval o = execOp (ev e) o) (h : vcOp P o e w K) (hK : ∀ v w', K v w' → next (a.put o.dst v) w') : o.wp P a w next Q := by
  unfold Oper.wp
  rw [he]
  unfold vcOp at h
  obtain ⟨dst, op, type, pos, after, guard⟩ := o
  simp only at h
  split at h
  · -- load
    split at h
    · rename_i ad hv
      obtain ⟨v, hr, hK'⟩ := ldEx_run h
      exact value_upon (by simp [execOp, hv, Instr.loadAt, Instr.sureAddr, hr]) (hK _ _ hK')
    · exact h.elim
  · -- store
    split at h
    · rename_i ad hv
      obtain ⟨w', hr, hK'⟩ := stVC_run h
      exact skip_upon (by simp [execOp, hv, Instr.storeAt, Instr.sureAddr, hr]) (hK _ _ hK')
    · exact h.elim
  · -- nilCheck
    split at h
    · rename_i p hv
      cases p with
      | none => exact h.elim
      | some ad => exact value_upon (by simp [execOp, hv]) (hK _ _ h)
    · exact h.elim
    · exact h.elim
    · rename_i hv
      exact value_upon (by simp [execOp, hv]) (hK _ _ h)
    · exact h.elim
    · rename_i hv
      exact value_upon (by simp [execOp, hv]) (hK _ _ h)
    · exact h.elim
  · -- indexAddr
    obtain ⟨v, hr, hK'⟩ := indexVC_run h
    exact value_upon (by simp only [execOp, Sem.run_bind, hr, Result.andThen_ok, Sem.run_pure]) (hK _ _ hK')
  · -- slice
    obtain ⟨v, w', hr, hK'⟩ := sliceVC_run h
    exact value_upon (by simp only [execOp, Sem.run_bind, hr, Result.andThen_ok, Sem.run_pure]) (hK _ _ hK')
  · -- binOp
    rename_i op T x y _
    obtain ⟨v, hr, hK'⟩ := binVC_run h (fun v hv => by subst hv; rfl)
    refine value_upon ?_ (hK _ _ hK')
    simp only [execOp, Sem.run_bind] at hr ⊢
    rw [hr]
    rfl
  · -- call
    rename_i c
    split at h
    · rename_i f hf
      have hres : ∀ (g : FuncId) (fst cap : Array Value), ev e f = .func (.func g) fst cap →
          (execOp (ev e) { dst := dst, op := .call c, type := type, pos := pos, after := after, guard := guard }).run P w = (callFunc g (fst.toList ++ (c.args.toList.map (ev e) ++ cap.toList)).toArray).run P w := fun g fst cap hv => by
        simp only [execOp, resolve, hf, hv, Deferred.ofValue, Sem.run_bind, Sem.run_pure, Result.andThen_ok, invoke]
        congr 2
        apply Array.toList_inj.1
        simp
      unfold callVC at h
      split at h
      · rename_i g fst cap hv
        split at h
        · rename_i hb
          exact enter_upon (w0 := w) (by rw [hres _ _ _ hv]; exact bodyB_run hb _ w) h hK
        · obtain ⟨v, w', hr, hK'⟩ := runV_out h
          refine value_upon ?_ (hK _ _ hK')
          rw [hres _ _ _ hv]
          rw [Sem.run_bind] at hr
          cases hc : (callFunc g (fst.toList ++ (c.args.toList.map (ev e) ++ cap.toList)).toArray).run P w with
          | halt x y => rw [hc] at hr; simp at hr
          | ok x y =>
            rw [hc] at hr
            simp only [Result.andThen_ok] at hr
            cases x <;> first | (simp at hr; done) | (simp only [Sem.run_pure] at hr; cases hr; rfl)
      · exact h.elim
    · rename_i r name hf
      obtain ⟨t, v, g, rv, hrv, hm, hb, h⟩ := h
      refine enter_upon (w0 := w) ?_ h hK
      have e1 : ((Value.iface t v :: c.args.toList.map (ev e)).toArray)[0]? = some (.iface t v) := by simp
      have e2 : #[rv] ++ (Value.iface t v :: c.args.toList.map (ev e)).toArray.extract 1 (Value.iface t v :: c.args.toList.map (ev e)).toArray.size = (rv :: c.args.toList.map (ev e)).toArray := by
        apply Array.toList_inj.1
        simp
        exact List.take_of_length_le (by simp)
      have e3 : #[ev e r] ++ c.args.map (ev e) = (Value.iface t v :: c.args.toList.map (ev e)).toArray := by
        apply Array.toList_inj.1
        simp [hrv]
      have e4 := bodyB_run hb (rv :: c.args.toList.map (ev e)).toArray w
      simp only [execOp, Sem.run_bind, resolve, hf, Sem.run_pure, Result.andThen_ok, invoke, e3, e1, callMethod, run_program, hm, e2, e4]
    · rename_i b hf
      obtain ⟨v, w', hr, hK'⟩ := builtinVC_run h (cs := c.args.map fun | .const _ => true | _ => false)
      refine value_upon ?_ (hK _ _ hK')
      simp only [execOp, resolve, hf, Sem.run_bind, Sem.run_pure, Result.andThen_ok, invoke]
      rw [show c.args.map (ev e) = (c.args.toList.map (ev e)).toArray from by apply Array.toList_inj.1; simp]
      exact hr
  · obtain ⟨v, w', hr, hK'⟩ := runV_out h
    exact value_upon (by simp only [execOp, Sem.run_bind, hr, Result.andThen_ok, Sem.run_pure]) (hK _ _ hK')
  · obtain ⟨w', hr, hK'⟩ := h
    exact skip_upon (by simp only [execOp, Sem.run_bind, hr, Result.andThen_ok, Sem.run_pure]) (hK _ _ hK')
  · obtain ⟨v, w', hr, hK'⟩ := runV_out h
    exact value_upon (by simp only [execOp, Sem.run_bind, hr, Result.andThen_ok, Sem.run_pure]) (hK _ _ hK')
  · obtain ⟨v, w', hr, hK'⟩ := runV_out h
    exact value_upon (by simp only [execOp, Sem.run_bind, hr, Result.andThen_ok, Sem.run_pure]) (hK _ _ hK')
  · obtain ⟨v, w', hr, hK'⟩ := runV_out h
    exact value_upon (by simp only [execOp, Sem.run_bind, hr, Result.andThen_ok, Sem.run_pure]) (hK _ _ hK')
  · obtain ⟨v, w', hr, hK'⟩ := runV_out h
    exact value_upon (by simp only [execOp, Sem.run_bind, hr, Result.andThen_ok, Sem.run_pure]) (hK _ _ hK')
  · obtain ⟨v, w', hr, hK'⟩ := runV_out h
    exact value_upon (by simp only [execOp, Sem.run_bind, hr, Result.andThen_ok, Sem.run_pure]) (hK _ _ hK')
  · obtain ⟨v, w', hr, hK'⟩ := runV_out h
    exact value_upon (by simp only [execOp, Sem.run_bind, hr, Result.andThen_ok, Sem.run_pure]) (hK _ _ hK')
  · -- convert
    obtain ⟨v, w', hr, hK'⟩ := convVC_run h
    exact value_upon (by simp only [execOp, Sem.run_bind, hr, Result.andThen_ok, Sem.run_pure]) (hK _ _ hK')
  · -- fieldAddr
    obtain ⟨v, hr, hK'⟩ := fieldVC_run h
    exact value_upon (by simp only [execOp, Sem.run_bind, hr, Result.andThen_ok, Sem.run_pure]) (hK _ _ hK')
  · exact value_upon (by simp [execOp]) (hK _ _ h)
  · exact value_upon (by simp [execOp]) (hK _ _ h)
  · exact h.elim
  · exact h.elim
  · obtain ⟨r, w', hr, hK'⟩ := vc_run _ h
    cases r <;> first | exact hK'.elim | exact value_upon hr (hK _ _ hK')
end Go.Sk
