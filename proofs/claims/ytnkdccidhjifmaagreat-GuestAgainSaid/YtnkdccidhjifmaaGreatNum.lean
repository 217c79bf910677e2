/- Own ground: whole numbers of a kind. -/
import Derived.Test.YtnkdccidhjifmaaGreatTp
namespace Go.Sk
theorem w64 (x : Int) : IntKind.u64.wrap x = x % 18446744073709551616 := by
  have : IntKind.u64.signed = false := rfl
  simp [IntKind.wrap, IntKind.bits, this]
theorem wi64 {x : Int} (h0 : -9223372036854775808 ≤ x) (h1 : x < 9223372036854775808) : IntKind.i64.wrap x = x := by
  have : IntKind.i64.signed = true := rfl
  simp only [IntKind.wrap, IntKind.bits, this]
  split <;> simp_all <;> omega
theorem w64_of {x : Int} (h0 : 0 ≤ x) (h1 : x < 18446744073709551616) : IntKind.u64.wrap x = x := by rw [w64]; omega
theorem tdiv_pos {x : Int} {k : Int} (h0 : 0 ≤ x) : x.tdiv k = x / k := Int.tdiv_eq_ediv_of_nonneg h0
theorem tmod_pos {x : Int} {k : Int} (h0 : 0 ≤ x) : x.tmod k = x % k := Int.tmod_eq_emod_of_nonneg h0
theorem pageNo (x : Int) : IntKind.u64.wrap ((IntKind.u64.wrap x).tdiv 4096) = x % 18446744073709551616 / 4096 := by
  simp only [w64]
  rw [tdiv_pos (by omega)]
  omega
theorem pageAt (x : Int) : (IntKind.u64.wrap x).tmod 4096 = x % 4096 := by
  simp only [w64]
  rw [tmod_pos (by omega)]
  omega
end Go.Sk
