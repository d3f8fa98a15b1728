/- A slice of one record, made by a literal. -/
import Derived.Test.YtchjjbklkmfelaaRecOwn
import Derived.Great.BuildSlice
namespace Go.Proofs.Ytchjjbklkmfelaa
open Go.RowKit Go.Lib
set_option linter.unusedVariables false
section
variable {P : Program}
theorem wpList_build1 {ops : Array Oper} {rest : List Oper} {o : Oper} {a : Act} {w : World} {Q : Exit → Act → World → Prop} (hg : o.guard = none) (t E : TypeId) (y : Operand) (ho : o.op = .buildSlice t 1 #[(0, y)])
    (x : List Value) (hy : a.eval y = .agg x.toArray) (K : Kinds) (hx : Typed K x) (z : Value) (bytes : Nat) (hu : P.underlying t = some (.slice E))
    (hi : (P.info? E).map (fun i => (i.zero, i.size, i.bytes)) = some (some z, K.length, bytes)) (hK : 0 < K.length) (hsm : K.length ≤ 2 ^ 24)
    (h : wpList P ops Q rest (a.put o.dst (.slice (some ⟨w.heap.size, 0, none⟩) 1 1)) (w.alloc (.cells x.toArray E))) : wpList P ops Q (o :: rest) a w := by
  obtain ⟨i0, hi0, hz0, hz1, hz2⟩ := info_parts hi
  refine wpList_buildSlice hg t E 1 #[(0, y)] ho x.toArray i0 z hu hi0 hz0 (by rw [hz1]; omega) (by rw [hz1]; omega) ?_ h
  have hl := hx.length
  have := Great.fill_whole (s := i0.size) (by rw [hz1]; exact hK) [.agg x.toArray] ((Array.range (1 * i0.size)).map (z.cells[· % z.cells.size]!)) (fun v hv => by
    rw [List.mem_singleton.1 hv, hz1]; simp [Value.cells, hl]) (by simp)
  simp [hy]
  simpa [Value.cells] using this
end
end Go.Proofs.Ytchjjbklkmfelaa
