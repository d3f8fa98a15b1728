/- huge.row: a number times a limb; huge.Mul: a product; huge.Short: a quotient by a limb. -/
import Derived.Test.YtchjjbklkmfelaaBox
import Derived.Test.YtchjjbklkmfelaaRef4
namespace Go.Proofs.Ytchjjbklkmfelaa
open Go.RowKit
set_option linter.unusedVariables false
set_option linter.unusedSimpArgs false

theorem row_math {a y k U ov x : Nat} (hU : U = (a % 18446744073709551616 ^ k * y) % 18446744073709551616 ^ k) (hov : ov = (a % 18446744073709551616 ^ k * y) / 18446744073709551616 ^ k) (hx : x = a / 18446744073709551616 ^ k % 18446744073709551616) :
    U + (x * y + ov) % 18446744073709551616 * 18446744073709551616 ^ k = (a % 18446744073709551616 ^ (k + 1) * y) % 18446744073709551616 ^ (k + 1) ∧
    (x * y + ov) / 18446744073709551616 = (a % 18446744073709551616 ^ (k + 1) * y) / 18446744073709551616 ^ (k + 1) := by
  have hp : 0 < 18446744073709551616 ^ k := Nat.pow_pos (by decide)
  have em : a % 18446744073709551616 ^ (k + 1) = a % 18446744073709551616 ^ k + 18446744073709551616 ^ k * x := by rw [Nat.pow_succ, Nat.mod_mul, ← hx]
  rw [em, Nat.pow_succ]
  clear em
  generalize 18446744073709551616 ^ k = p at *
  have e := Nat.div_add_mod (a % p * y) p
  rw [← hU, ← hov] at e
  have hUp : U < p := by rw [hU]; exact Nat.mod_lt _ hp
  have key : (a % p + p * x) * y = U + p * (x * y + ov) := by
    rw [Nat.add_mul, ← e, Nat.mul_add, Nat.mul_assoc]
    omega
  rw [key]
  have m := Nat.div_add_mod (x * y + ov) 18446744073709551616
  generalize x * y + ov = t at *
  constructor
  · rw [Nat.mod_mul, Nat.add_mul_mod_self_left, Nat.mod_eq_of_lt hUp, Nat.add_mul_div_left _ _ hp, Nat.div_eq_of_lt hUp, Nat.zero_add, Nat.mul_comm p]
  · rw [← Nat.div_div_eq_div_mul, Nat.add_mul_div_left _ _ hp, Nat.div_eq_of_lt hUp, Nat.zero_add]

theorem row_ov {a y k : Nat} (hy : y < 18446744073709551616) : (a % 18446744073709551616 ^ k * y) / 18446744073709551616 ^ k < 18446744073709551616 := by
  have hp : 0 < 18446744073709551616 ^ k := Nat.pow_pos (by decide)
  apply Nat.div_lt_of_lt_mul
  have h1 := Nat.mod_lt a hp
  have h2 : a % 18446744073709551616 ^ k * y ≤ 18446744073709551616 ^ k * y := Nat.mul_le_mul_right _ (Nat.le_of_lt h1)
  have h3 : 18446744073709551616 ^ k * y < 18446744073709551616 ^ k * 18446744073709551616 := Nat.mul_lt_mul_of_pos_left hy hp
  omega

end Go.Proofs.Ytchjjbklkmfelaa
