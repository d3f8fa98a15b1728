/- The bits of limbs. -/
import Derived.Test.YtchjjbklkmfelaaBase
import Derived.Laws.BitsAllLaws
namespace Go.Proofs.Ytchjjbklkmfelaa
open Go.RowKit
theorem or64_bd {a b : Int} (a0 : 0 ≤ a) (a1 : a < 18446744073709551616) (b0 : 0 ≤ b) (b1 : b < 18446744073709551616) :
    0 ≤ bits .or .u64 a b ∧ bits .or .u64 a b < 18446744073709551616 ∧ a ≤ bits .or .u64 a b ∧ b ≤ bits .or .u64 a b := by
  rw [u64_or a b a0 a1 b0 b1]
  have h1 := Nat.or_lt_two_pow (x := a.toNat) (y := b.toNat) (n := 64) (by omega) (by omega)
  have h2 : a.toNat ≤ a.toNat ||| b.toNat := Nat.left_le_or
  have h3 : b.toNat ≤ a.toNat ||| b.toNat := Nat.right_le_or
  omega
end Go.Proofs.Ytchjjbklkmfelaa
