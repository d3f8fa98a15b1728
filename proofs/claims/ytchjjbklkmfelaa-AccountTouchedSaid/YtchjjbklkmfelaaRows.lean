/-
  No cell of these rows narrows 'for every input' (looked for: loops, veiled, ifaces, maps, wideKeys, modest, calm, conditions, laid).
  DERIVED. THE GIVEN ROWS OF THIS SEAT. 7 by the template 'for every input the law returns true; each argument reads behind the call as it read before'; 0 by the template 'total and deterministic' (their statements: YtchjjbklkmfelaaTotals.lean).
  GIVEN WITH THE SEED: the statements are not yours to turn. If you find one false, say at which input.
  Laid BY PROGRAM, IN A SANDBOX (cutbox-rows.mjs): the forced cells as the released guide's own fill.sh prints them over the translation 3ab627ba38761f88… (all of the seat's roots in one cut). By AI agents, Wed Nov 11 2026. No macro, syntax, notation, axiom, sorry.
-/
import Derived.Test.YtchjjbklkmfelaaChecked
import GoSem.Claim
import GoSem.ClaimJoined
import GoSem.ClaimMapViews
import Derived.JoinedTies
import Derived.KernelRfl
namespace Go.Proofs.Ytchjjbklkmfelaa
/- THE CELL 'sum', in the pinned program and in every row, IS THE sha256 OF THE DUMP (.gsa) THAT YtchjjbklkmfelaaProg.lean LOADS. Nothing in Lean hashes anything: it is a label: what it is worth is what the hold of that sum in a sandbox is worth. -/
noncomputable def Try.pinned : Pinned := { name := "ytchjjbklkmfelaa", sum := "3ab627ba38761f8899a2272b8bf7c24017949649a30a09d1ae9a76ea0f79ec78", checked := Try.checked }
namespace Rows
def none {H : Type} : Left H := { results := [], args := [] }

/-- 'sponsionlaw29.TraceSlashed': WHATEVER THE INPUT: true; the input reads as it did. -/
def traceSlashedSpec : ChangeSpec := { name := "traceSlashed", fn := fun _ => fun
  | [d1, d2] => { results := [.lit (.bool true)], args := [d1, d2] }
  | _ => none }
def traceSlashedRow : OpenClaim := { program := "ytchjjbklkmfelaa", sum := "3ab627ba38761f8899a2272b8bf7c24017949649a30a09d1ae9a76ea0f79ec78", func := "sponsion/sponsionlaw29.TraceSlashed", spec := "traceSlashed", unfollowed := true, recurses := true, apart := false }
def TraceSlashedSaid : Prop := traceSlashedRow.holds Try.pinned (OpenSpec.ofChange traceSlashedSpec)

/-- ITS FALSE NEIGHBOUR: 'it returns false'. Refute it at one input. -/
def traceSlashedWrong : ChangeSpec := { name := "traceSlashed", fn := fun _ => fun
  | [d1, d2] => { results := [.lit (.bool false)], args := [d1, d2] }
  | _ => none }
def TraceSlashedWrongFalsely : Prop := traceSlashedRow.holds Try.pinned (OpenSpec.ofChange traceSlashedWrong)

/-- 'sponsionlaw29.TraceJoins': WHATEVER THE INPUT: true; the input reads as it did. -/
def traceJoinsSpec : ChangeSpec := { name := "traceJoins", fn := fun _ => fun
  | [d1, d2, d3, d4] => { results := [.lit (.bool true)], args := [d1, d2, d3, d4] }
  | _ => none }
def traceJoinsRow : OpenClaim := { program := "ytchjjbklkmfelaa", sum := "3ab627ba38761f8899a2272b8bf7c24017949649a30a09d1ae9a76ea0f79ec78", func := "sponsion/sponsionlaw29.TraceJoins", spec := "traceJoins", unfollowed := true, recurses := true, apart := false }
def TraceJoinsSaid : Prop := traceJoinsRow.holds Try.pinned (OpenSpec.ofChange traceJoinsSpec)

/-- ITS FALSE NEIGHBOUR: 'it returns false'. Refute it at one input. -/
def traceJoinsWrong : ChangeSpec := { name := "traceJoins", fn := fun _ => fun
  | [d1, d2, d3, d4] => { results := [.lit (.bool false)], args := [d1, d2, d3, d4] }
  | _ => none }
def TraceJoinsWrongFalsely : Prop := traceJoinsRow.holds Try.pinned (OpenSpec.ofChange traceJoinsWrong)

/-- 'sponsionlaw28.AuditChecks': WHATEVER THE INPUT: true; the input reads as it did. -/
def auditChecksSpec : ChangeSpec := { name := "auditChecks", fn := fun _ => fun
  | [d] => { results := [.lit (.bool true)], args := [d] }
  | _ => none }
def auditChecksRow : OpenClaim := { program := "ytchjjbklkmfelaa", sum := "3ab627ba38761f8899a2272b8bf7c24017949649a30a09d1ae9a76ea0f79ec78", func := "sponsion/sponsionlaw28.AuditChecks", spec := "auditChecks", unfollowed := true, recurses := true, apart := false }
def AuditChecksSaid : Prop := auditChecksRow.holds Try.pinned (OpenSpec.ofChange auditChecksSpec)

/-- ITS FALSE NEIGHBOUR: 'it returns false'. Refute it at one input. -/
def auditChecksWrong : ChangeSpec := { name := "auditChecks", fn := fun _ => fun
  | [d] => { results := [.lit (.bool false)], args := [d] }
  | _ => none }
def AuditChecksWrongFalsely : Prop := auditChecksRow.holds Try.pinned (OpenSpec.ofChange auditChecksWrong)

/-- 'sponsionlaw31.AccountTotals': WHATEVER THE INPUT: true; the input reads as it did. -/
def accountTotalsSpec : ChangeSpec := { name := "accountTotals", fn := fun _ => fun
  | [d1, d2, d3, d4] => { results := [.lit (.bool true)], args := [d1, d2, d3, d4] }
  | _ => none }
def accountTotalsRow : OpenClaim := { program := "ytchjjbklkmfelaa", sum := "3ab627ba38761f8899a2272b8bf7c24017949649a30a09d1ae9a76ea0f79ec78", func := "sponsion/sponsionlaw31.AccountTotals", spec := "accountTotals", unfollowed := true, recurses := true, apart := false }
def AccountTotalsSaid : Prop := accountTotalsRow.holds Try.pinned (OpenSpec.ofChange accountTotalsSpec)

/-- ITS FALSE NEIGHBOUR: 'it returns false'. Refute it at one input. -/
def accountTotalsWrong : ChangeSpec := { name := "accountTotals", fn := fun _ => fun
  | [d1, d2, d3, d4] => { results := [.lit (.bool false)], args := [d1, d2, d3, d4] }
  | _ => none }
def AccountTotalsWrongFalsely : Prop := accountTotalsRow.holds Try.pinned (OpenSpec.ofChange accountTotalsWrong)

/-- 'sponsionlaw29.TraceFlows': WHATEVER THE INPUT: true; the input reads as it did. -/
def traceFlowsSpec : ChangeSpec := { name := "traceFlows", fn := fun _ => fun
  | [d1, d2, d3] => { results := [.lit (.bool true)], args := [d1, d2, d3] }
  | _ => none }
def traceFlowsRow : OpenClaim := { program := "ytchjjbklkmfelaa", sum := "3ab627ba38761f8899a2272b8bf7c24017949649a30a09d1ae9a76ea0f79ec78", func := "sponsion/sponsionlaw29.TraceFlows", spec := "traceFlows", unfollowed := true, recurses := true, apart := false }
def TraceFlowsSaid : Prop := traceFlowsRow.holds Try.pinned (OpenSpec.ofChange traceFlowsSpec)

/-- ITS FALSE NEIGHBOUR: 'it returns false'. Refute it at one input. -/
def traceFlowsWrong : ChangeSpec := { name := "traceFlows", fn := fun _ => fun
  | [d1, d2, d3] => { results := [.lit (.bool false)], args := [d1, d2, d3] }
  | _ => none }
def TraceFlowsWrongFalsely : Prop := traceFlowsRow.holds Try.pinned (OpenSpec.ofChange traceFlowsWrong)

/-- 'sponsionlaw28.AuditMargins': WHATEVER THE INPUT: true; the input reads as it did. -/
def auditMarginsSpec : ChangeSpec := { name := "auditMargins", fn := fun _ => fun
  | [d] => { results := [.lit (.bool true)], args := [d] }
  | _ => none }
def auditMarginsRow : OpenClaim := { program := "ytchjjbklkmfelaa", sum := "3ab627ba38761f8899a2272b8bf7c24017949649a30a09d1ae9a76ea0f79ec78", func := "sponsion/sponsionlaw28.AuditMargins", spec := "auditMargins", unfollowed := true, recurses := true, apart := false }
def AuditMarginsSaid : Prop := auditMarginsRow.holds Try.pinned (OpenSpec.ofChange auditMarginsSpec)

/-- ITS FALSE NEIGHBOUR: 'it returns false'. Refute it at one input. -/
def auditMarginsWrong : ChangeSpec := { name := "auditMargins", fn := fun _ => fun
  | [d] => { results := [.lit (.bool false)], args := [d] }
  | _ => none }
def AuditMarginsWrongFalsely : Prop := auditMarginsRow.holds Try.pinned (OpenSpec.ofChange auditMarginsWrong)

/-- 'sponsionlaw31.AccountTouched': WHATEVER THE INPUT: true; the input reads as it did. -/
def accountTouchedSpec : ChangeSpec := { name := "accountTouched", fn := fun _ => fun
  | [d1, d2] => { results := [.lit (.bool true)], args := [d1, d2] }
  | _ => none }
def accountTouchedRow : OpenClaim := { program := "ytchjjbklkmfelaa", sum := "3ab627ba38761f8899a2272b8bf7c24017949649a30a09d1ae9a76ea0f79ec78", func := "sponsion/sponsionlaw31.AccountTouched", spec := "accountTouched", unfollowed := true, recurses := true, apart := false }
def AccountTouchedSaid : Prop := accountTouchedRow.holds Try.pinned (OpenSpec.ofChange accountTouchedSpec)

/-- ITS FALSE NEIGHBOUR: 'it returns false'. Refute it at one input. -/
def accountTouchedWrong : ChangeSpec := { name := "accountTouched", fn := fun _ => fun
  | [d1, d2] => { results := [.lit (.bool false)], args := [d1, d2] }
  | _ => none }
def AccountTouchedWrongFalsely : Prop := accountTouchedRow.holds Try.pinned (OpenSpec.ofChange accountTouchedWrong)

/- THE SECOND FORM. 'bulk': how many values and letters a reading holds, each counted each time it is reached (what is shared counts as often as it is met; a slice's spare places count too). A statement '..UptoSaid' is the law's where the arguments, and the package variables that the reading takes, are together of bulk at most 1048576: NARROWER than '..Said'. Prove '..Said' where nothing that the law and all that it calls make is longer than what came in: it says more and counts as full. Else prove '..UptoSaid'. A law counts once. -/
mutual
def uptoBulk {H : Type} : DataW H → Nat
  | .lit (.string bytes) => bytes.length + 1
  | .lit _ => 1
  | .nil => 1
  | .ptr d => uptoBulk d + 1
  | .slice elems spare => uptoBulkAll elems + uptoBulkAll spare + 1
  | .agg parts => uptoBulkAll parts + 1
  | .iface _ d => uptoBulk d + 1
  | .map entries => uptoBulkEntries entries + 1
  | .held _ => 1
def uptoBulkAll {H : Type} : List (DataW H) → Nat
  | [] => 0
  | d :: r => uptoBulk d + uptoBulkAll r
def uptoBulkEntries {H : Type} : List (Lit × DataW H) → Nat
  | [] => 0
  | x :: r => uptoBulkEntry x + uptoBulkEntries r
def uptoBulkEntry {H : Type} : Lit × DataW H → Nat
  | (.string bytes, d) => bytes.length + uptoBulk d + 1
  | (_, d) => uptoBulk d + 1
 end
def uptoSmall : (H : Type) → List (DataW H) → Bool := fun _ ds => decide (uptoBulkAll ds ≤ 1048576)
def OpenSpec.upto (s : _root_.Go.ChangeSpec) : _root_.Go.OpenSpec := { _root_.Go.OpenSpec.ofChange s with cond := some uptoSmall }

/-- 'sponsionlaw29.TraceSlashed', WHERE WHAT IT READS IS OF BULK AT MOST 1048576: true; the input reads as it did. -/
def traceSlashedUptoRow : OpenClaim := { program := "ytchjjbklkmfelaa", sum := "3ab627ba38761f8899a2272b8bf7c24017949649a30a09d1ae9a76ea0f79ec78", func := "sponsion/sponsionlaw29.TraceSlashed", spec := "traceSlashed", unfollowed := true, recurses := true, apart := false, narrowed := true }
def TraceSlashedUptoSaid : Prop := traceSlashedUptoRow.holds Try.pinned (OpenSpec.upto traceSlashedSpec)

/-- 'sponsionlaw29.TraceJoins', WHERE WHAT IT READS IS OF BULK AT MOST 1048576: true; the input reads as it did. -/
def traceJoinsUptoRow : OpenClaim := { program := "ytchjjbklkmfelaa", sum := "3ab627ba38761f8899a2272b8bf7c24017949649a30a09d1ae9a76ea0f79ec78", func := "sponsion/sponsionlaw29.TraceJoins", spec := "traceJoins", unfollowed := true, recurses := true, apart := false, narrowed := true }
def TraceJoinsUptoSaid : Prop := traceJoinsUptoRow.holds Try.pinned (OpenSpec.upto traceJoinsSpec)

/-- 'sponsionlaw28.AuditChecks', WHERE WHAT IT READS IS OF BULK AT MOST 1048576: true; the input reads as it did. -/
def auditChecksUptoRow : OpenClaim := { program := "ytchjjbklkmfelaa", sum := "3ab627ba38761f8899a2272b8bf7c24017949649a30a09d1ae9a76ea0f79ec78", func := "sponsion/sponsionlaw28.AuditChecks", spec := "auditChecks", unfollowed := true, recurses := true, apart := false, narrowed := true }
def AuditChecksUptoSaid : Prop := auditChecksUptoRow.holds Try.pinned (OpenSpec.upto auditChecksSpec)

/-- 'sponsionlaw31.AccountTotals', WHERE WHAT IT READS IS OF BULK AT MOST 1048576: true; the input reads as it did. -/
def accountTotalsUptoRow : OpenClaim := { program := "ytchjjbklkmfelaa", sum := "3ab627ba38761f8899a2272b8bf7c24017949649a30a09d1ae9a76ea0f79ec78", func := "sponsion/sponsionlaw31.AccountTotals", spec := "accountTotals", unfollowed := true, recurses := true, apart := false, narrowed := true }
def AccountTotalsUptoSaid : Prop := accountTotalsUptoRow.holds Try.pinned (OpenSpec.upto accountTotalsSpec)

/-- 'sponsionlaw29.TraceFlows', WHERE WHAT IT READS IS OF BULK AT MOST 1048576: true; the input reads as it did. -/
def traceFlowsUptoRow : OpenClaim := { program := "ytchjjbklkmfelaa", sum := "3ab627ba38761f8899a2272b8bf7c24017949649a30a09d1ae9a76ea0f79ec78", func := "sponsion/sponsionlaw29.TraceFlows", spec := "traceFlows", unfollowed := true, recurses := true, apart := false, narrowed := true }
def TraceFlowsUptoSaid : Prop := traceFlowsUptoRow.holds Try.pinned (OpenSpec.upto traceFlowsSpec)

/-- 'sponsionlaw28.AuditMargins', WHERE WHAT IT READS IS OF BULK AT MOST 1048576: true; the input reads as it did. -/
def auditMarginsUptoRow : OpenClaim := { program := "ytchjjbklkmfelaa", sum := "3ab627ba38761f8899a2272b8bf7c24017949649a30a09d1ae9a76ea0f79ec78", func := "sponsion/sponsionlaw28.AuditMargins", spec := "auditMargins", unfollowed := true, recurses := true, apart := false, narrowed := true }
def AuditMarginsUptoSaid : Prop := auditMarginsUptoRow.holds Try.pinned (OpenSpec.upto auditMarginsSpec)

/-- 'sponsionlaw31.AccountTouched', WHERE WHAT IT READS IS OF BULK AT MOST 1048576: true; the input reads as it did. -/
def accountTouchedUptoRow : OpenClaim := { program := "ytchjjbklkmfelaa", sum := "3ab627ba38761f8899a2272b8bf7c24017949649a30a09d1ae9a76ea0f79ec78", func := "sponsion/sponsionlaw31.AccountTouched", spec := "accountTouched", unfollowed := true, recurses := true, apart := false, narrowed := true }
def AccountTouchedUptoSaid : Prop := accountTouchedUptoRow.holds Try.pinned (OpenSpec.upto accountTouchedSpec)

end Rows
end Go.Proofs.Ytchjjbklkmfelaa
