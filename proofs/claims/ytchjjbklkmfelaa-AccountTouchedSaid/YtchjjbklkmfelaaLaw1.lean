/- The statements of layer 1 as Go functions: each answers true, and leaves memory as it was. -/
import Derived.Test.YtchjjbklkmfelaaLimb
namespace Go.Proofs.Ytchjjbklkmfelaa
open Go.RowKit
set_option linter.unusedVariables false
set_option linter.unusedSimpArgs false

/-- A block of ints, written out. -/
theorem row_lit (w : World) (l : List Int) (n : Nat) (hn : l.length = n) (hm : n ≤ maxLen) :
    Row (w.alloc (.cells (l.map (Value.int .i64)).toArray 3)) (.slice (some ⟨w.heap.size, 0, none⟩) n n) l := by
  subst hn
  refine ⟨some ⟨w.heap.size, 0, none⟩, l.length, rfl, Nat.le_refl _, hm, .inr ⟨w.heap.size, 0, rfl, fun j hj => ?_⟩⟩
  rw [Nat.zero_add, cell_of_row _ _ _ _ _ _ (heap_alloc_new w _)]
  simp [hj]

theorem dig_limb : dig 18446744073709551616 = [0, 0, 0, 0, 1] := by
  rw [dig_pos (by omega), dig_pos (by omega), dig_pos (by omega), dig_pos (by omega), dig_pos (by omega), show 18446744073709551616 / 65536 / 65536 / 65536 / 65536 / 65536 = 0 from rfl, dig_zero]
  rfl

theorem below_row {w w' w'' : World} (h : Below w.heap.size w w') (h' : Below w'.heap.size w' w'') : Below w.heap.size w w'' := h.trans (h'.mono h.size)

end Go.Proofs.Ytchjjbklkmfelaa
