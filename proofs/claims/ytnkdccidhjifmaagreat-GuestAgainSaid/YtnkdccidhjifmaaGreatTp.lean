/- Own ground: what the loaded program's table tells of the types that are met. -/
import Derived.Test.YtnkdccidhjifmaaGreatMp
import Derived.Test.YtnkdccidhjifmaaGreatProg
set_option linter.unusedVariables false
namespace Go.Sk
open Go.Proofs
theorem mixed : Tryz.prog.follows .mixedOrders = true := by kernel_rfl
theorem u39 : Tryz.prog.underlying 39 = some (.slice 5) := by kernel_rfl
theorem u44 : Tryz.prog.underlying 44 = some (.slice 22) := by kernel_rfl
theorem u109 : Tryz.prog.underlying 109 = some (.map 22 115) := by kernel_rfl
theorem u22 : Tryz.prog.underlying 22 = some (.int .u64) := by kernel_rfl
theorem i5 : (Tryz.prog.info? 5).map (fun i => (i.zero, i.size, i.bytes)) = some (some (.int .u8 0), 1, 1) := by kernel_rfl
theorem i22 : (Tryz.prog.info? 22).map (fun i => (i.zero, i.size, i.bytes)) = some (some (.int .u64 0), 1, 8) := by kernel_rfl
theorem z115 (w : World) : (zeroValue 115).run Tryz.prog w = .ok (.pointer none) w := by
  have h : (Tryz.prog.info? 115).map (fun i => (i.zero, i.size, i.bytes)) = some (some (.pointer none), 1, 8) := by kernel_rfl
  obtain ⟨i, hi, hz0, hz1, hz2⟩ := info_parts h
  simp [zeroValue, typeInfo, hi, hz0, Result.andThen]
theorem u122 : Tryz.prog.underlying 122 = some (.slice 132) := by kernel_rfl
theorem i132 : (Tryz.prog.info? 132).map (fun i => (i.zero, i.size, i.bytes)) = some (some (.pointer none), 1, 8) := by kernel_rfl
/-- A byte more. -/
theorem app8 {w0 w : World} {A : Asrt} {a : Option Addr} {n c : Nat} {l : List Value} {f : Asrt → Asrt} {ad2 : Addr} {x : Int} {c2 : Nat} {ty : TypeId} {K : Option Addr → Nat → Nat → World → Prop}
    (h : S w0 w A) [hA : AtSl A a n c 5 l f] (hx : w.cell? ad2 = some (.int .u8 x)) (hlen : l.length + 1 ≤ 100000000)
    (k : ∀ a' n' c' w', S w0 w' (f (slA 5 (l ++ [.int .u8 x]) a' n' c')) → n' = l.length + 1 → K a' n' c' w') :
    ∃ (a' : Option Addr) (n' c' : Nat), ∃ w' : World, (Builtin.append_ #[39, 39] ty #[.slice a n c, .slice (some ad2) 1 c2]).run Tryz.prog w = .ok (.slice a' n' c') w' ∧ K a' n' c' w' := by
  obtain ⟨i, hi, hz0, hz1, hz2⟩ := info_parts i5
  exact app_sl h u39 hi hz0 hz1 hz2 rfl hx rfl (by simp only [maxLen]; omega) (by omega) k
end Go.Sk
