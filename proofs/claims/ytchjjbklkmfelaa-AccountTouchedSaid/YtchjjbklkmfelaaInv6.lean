/- A region that draws, whose operations yield one value in every world of a class: loads of whole rows. -/
import Derived.Test.YtchjjbklkmfelaaInv5
import Derived.BigQuiet
namespace Go.Proofs.Ytchjjbklkmfelaa
open Go.RowKit Go.Lib Go.Deep
set_option linter.unusedVariables false
section
variable {P : Program} {ops : Array Oper} {D : Type} {W : D → World} {Q : Act → Prop} {a : Act} {o : Oper} {rest : List Oper}
theorem quiet_load_row (hg : Region.wanted o (yielded ops a.tmps) = true) {ty : TypeId} {x : Operand} (hop : o.op = .load ty x) {b k : Nat} (cs : List Value) (hx : a.eval x = .pointer (some ⟨b, k, none⟩)) (hc : ∀ n, (W n).rangeAt b k cs)
    {d : TypeDesc} (hu : P.underlying ty = some d) (hr : d.isRow = true) (hi : (P.info? ty).map (·.size) = some cs.length) (h : wpQuiet P ops (fun w' => ∃ n, w' = W n) Q rest (a.put o.dst (.agg cs.toArray))) :
    wpQuiet P ops (fun w' => ∃ n, w' = W n) Q (o :: rest) a := by
  unfold wpQuiet
  rw [if_pos hg]
  refine ⟨.agg cs.toArray, fun w hw => ?_, h⟩
  obtain ⟨n, rfl⟩ := hw
  unfold Oper.quietAt execOp
  simp only [hop, hx, Instr.loadAt, Instr.sureAddr, Sem.run_bind, Sem.run_pure, Result.andThen_ok, run_loadVar_mid (W n) b k ty cs d (hc n) hu hr hi]
  exact ⟨rfl, rfl⟩
end
/-- The worlds of a class, under a letter: what is known of each serves the walk as it stands. -/
theorem class_of (C : World → Prop) : ∃ (D : Type) (wo : D → World), (∀ n, C (wo n)) ∧ (∀ w', C w' → ∃ n, w' = wo n) := ⟨{w // C w}, Subtype.val, fun n => n.2, fun w' h => ⟨⟨w', h⟩, rfl⟩⟩
end Go.Proofs.Ytchjjbklkmfelaa
