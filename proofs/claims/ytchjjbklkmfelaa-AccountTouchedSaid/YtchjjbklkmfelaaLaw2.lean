/- Layer 2 (huge): what its statements share (the chapter's example, 'is'), and the first of them. -/
import Derived.Test.YtchjjbklkmfelaaParse
import Derived.Test.YtchjjbklkmfelaaRef5
import Derived.Test.YtchjjbklkmfelaaLaw1b
import Derived.Test.YtchjjbklkmfelaaBits
namespace Go.Proofs.Ytchjjbklkmfelaa
open Go.RowKit Go.Lib
set_option linter.unusedVariables false
set_option linter.unusedSimpArgs false

instance (l : List UInt8) : Decidable (badText l) := inferInstanceAs (Decidable (_ ∨ _ ∨ _))
/-- What Parse tells of a text. -/
def parseV (l : List UInt8) : Value := if badText l then .tuple #[bigN 0, .int .i64 6] else sumV (decV l)

theorem parse_ex : parseV [49, 56, 52, 52, 54, 55, 52, 52, 48, 55, 51, 55, 48, 57, 53, 53, 49, 54, 49, 54] = .tuple #[big 0 1 0 0, .int .i64 0] := by
  unfold parseV
  rw [if_neg (by decide +kernel), show decV [49, 56, 52, 52, 54, 55, 52, 52, 48, 55, 51, 55, 48, 57, 53, 53, 49, 54, 49, 54] = 18446744073709551616 by decide +kernel, sumV_lt (by decide)]
  have e : ∀ k, limb 18446744073709551616 k = ((18446744073709551616 / 18446744073709551616 ^ k % 18446744073709551616 : Nat) : Int) := fun k => rfl
  have h0 : limb 18446744073709551616 0 = 0 := by rw [e]; decide
  have h1 : limb 18446744073709551616 1 = 1 := by rw [e]; decide
  have h2 : limb 18446744073709551616 2 = 0 := by rw [e]; decide
  have h3 : limb 18446744073709551616 3 = 0 := by rw [e]; decide
  unfold bigN
  rw [h0, h1, h2, h3]

end Go.Proofs.Ytchjjbklkmfelaa
