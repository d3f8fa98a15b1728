/- The statements of layer 1 (limb) as Go functions: whatever the limbs, each answers true, and leaves what was there as it was. -/
import Derived.Test.YtchjjbklkmfelaaLaw1
namespace Go.Proofs.Ytchjjbklkmfelaa
open Go.RowKit
set_option linter.unusedVariables false
set_option linter.unusedSimpArgs false


theorem dig_many {n : Nat} (h : 18446744073709551616 ≤ n) : 4 < (dig n).length := by
  have := dig_lt n
  by_cases hl : (dig n).length ≤ 4
  · have h2 := Nat.lt_of_lt_of_le this (Nat.pow_le_pow_right (show 0 < 65536 by decide) hl)
    omega
  · omega

theorem dig_few {n : Nat} (h : n < 18446744073709551616) : (dig n).length ≤ 4 := dig_len_le (by omega)

end Go.Proofs.Ytchjjbklkmfelaa
