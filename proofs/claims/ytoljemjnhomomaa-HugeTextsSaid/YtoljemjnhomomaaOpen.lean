/- What an argument that came in is: a number of four limbs. -/
import Derived.Test.YtoljemjnhomomaaPost
import Derived.Test.YtoljemjnhomomaaEq
import Derived.Test.YtoljemjnhomomaaHuge
import Derived.Laws.IdiomArrays
namespace Go.Proofs.Ytoljemjnhomomaa
open Go.ChangeShapes Go.WideShapes Go.ChangeAt Go.RowKit
set_option linter.unusedVariables false
section
variable {H : Type} {enc : TypeId × Value → H}

theorem list_four {α : Type} : ∀ (l : List α), l.length = 4 → ∃ a b c d, l = [a, b, c, d]
  | [a, b, c, d], _ => ⟨a, b, c, d, rfl⟩

theorem open_Int {W : World} {base : Nat} {v : Value} {d : DataW H} {p : List MemPlace} (hval : Value.okWide Try.prog W .any base 42 v) (h : DataW.Trod enc Try.prog W 0 (fun _ => true) true 42 v d p) :
    ∃ n, n < 18446744073709551616 ^ 4 ∧ v = bigN n := by
  obtain ⟨cs, rfl, hsz, _⟩ : ∃ cs, v = .agg cs ∧ cs.size = Try.prog.cellsOf 42 ∧ Row.okWide Try.prog W .any base 42 cs := by
    simpa [Value.okWide, Try.underlying42] using hval
  rw [show Try.prog.cellsOf 42 = 4 by kernel_rfl] at hsz
  obtain ⟨l⟩ := cs
  obtain ⟨c0, c1, c2, c3, rfl⟩ := list_four l hsz
  obtain ⟨fuel, hf⟩ := h
  obtain ⟨y0, y1, y2, y3, m, hx, hy0, hy1, hy2, hy3⟩ := trod_array4 Try.underlying42 Try.cellsU64 hf
  obtain ⟨x0, e0, rfl, w0⟩ := DataW.trod_int Try.underlying22 hy0
  obtain ⟨x1, e1, rfl, w1⟩ := DataW.trod_int Try.underlying22 hy1
  obtain ⟨x2, e2, rfl, w2⟩ := DataW.trod_int Try.underlying22 hy2
  obtain ⟨x3, e3, rfl, w3⟩ := DataW.trod_int Try.underlying22 hy3
  simp at e0 e1 e2 e3
  subst e0 e1 e2 e3
  have b0 := bounds_u64 w0
  have b1 := bounds_u64 w1
  have b2 := bounds_u64 w2
  have b3 := bounds_u64 w3
  exact ⟨num x0 x1 x2 x3, num_lt (by omega) (by omega) (by omega) (by omega), big_num b0.1 (by omega) b1.1 (by omega) b2.1 (by omega) b3.1 (by omega)⟩
end
end Go.Proofs.Ytoljemjnhomomaa
