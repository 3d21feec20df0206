/- A number that fits is not wrapped. -/
import Derived.Test.YtobpbjmnonbblaaDoorStep
namespace Go.Proofs.YtobpbjmnonbblaaDoor
theorem wrap64 (n : Int) (h1 : -9223372036854775808 ≤ n) (h2 : n ≤ 9223372036854775807) : IntKind.i64.wrap n = n := by
  have e : IntKind.i64.wrap n = if n % 18446744073709551616 ≥ 9223372036854775808 then n % 18446744073709551616 - 18446744073709551616 else n % 18446744073709551616 := by
    simp [IntKind.wrap, IntKind.bits, IntKind.signed]
  rw [e]
  split <;> omega
end Go.Proofs.YtobpbjmnonbblaaDoor
