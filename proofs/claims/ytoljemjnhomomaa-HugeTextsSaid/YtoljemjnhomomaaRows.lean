/-
  No cell of these rows narrows 'for every input' (looked for: loops, veiled, ifaces, maps, wideKeys, modest, calm, conditions, laid).
  DERIVED. THE GIVEN ROWS OF THIS SEAT. 11 by the template 'for every input the law returns true; each argument reads behind the call as it read before'; 0 by the template 'total and deterministic' (their statements: YtoljemjnhomomaaTotals.lean).
  GIVEN WITH THE SEED: the statements are not yours to turn. If you find one false, say at which input.
  Laid BY PROGRAM, IN A SANDBOX (cutbox-rows.mjs): the forced cells as the released guide's own fill.sh prints them over the translation 87348bf528d29baa… (all of the seat's roots in one cut). By AI agents, Wed Nov 11 2026. No macro, syntax, notation, axiom, sorry.
-/
import Derived.Test.YtoljemjnhomomaaChecked
import GoSem.Claim
import GoSem.ClaimJoined
import GoSem.ClaimMapViews
import Derived.JoinedTies
import Derived.KernelRfl
namespace Go.Proofs.Ytoljemjnhomomaa
/- THE CELL 'sum', in the pinned program and in every row, IS THE sha256 OF THE DUMP (.gsa) THAT YtoljemjnhomomaaProg.lean LOADS. Nothing in Lean hashes anything: it is a label: what it is worth is what the hold of that sum in a sandbox is worth. -/
noncomputable def Try.pinned : Pinned := { name := "ytoljemjnhomomaa", sum := "87348bf528d29baa6cc34f0bb2ee88e19143b5251ebf4ece0ccd30adf267d328", checked := Try.checked }
namespace Rows
def none {H : Type} : Left H := { results := [], args := [] }

/-- 'sponsionlaw01.LimbDivs': WHATEVER THE INPUT: true; the input reads as it did. -/
def limbDivsSpec : ChangeSpec := { name := "limbDivs", fn := fun _ => fun
  | [d1, d2, d3] => { results := [.lit (.bool true)], args := [d1, d2, d3] }
  | _ => none }
def limbDivsRow : OpenClaim := { program := "ytoljemjnhomomaa", sum := "87348bf528d29baa6cc34f0bb2ee88e19143b5251ebf4ece0ccd30adf267d328", func := "sponsion/sponsionlaw01.LimbDivs", spec := "limbDivs", apart := false }
def LimbDivsSaid : Prop := limbDivsRow.holds Try.pinned (OpenSpec.ofChange limbDivsSpec)

/-- ITS FALSE NEIGHBOUR: 'it returns false'. Refute it at one input. -/
def limbDivsWrong : ChangeSpec := { name := "limbDivs", fn := fun _ => fun
  | [d1, d2, d3] => { results := [.lit (.bool false)], args := [d1, d2, d3] }
  | _ => none }
def LimbDivsWrongFalsely : Prop := limbDivsRow.holds Try.pinned (OpenSpec.ofChange limbDivsWrong)

/-- 'sponsionlaw01.LimbLens': WHATEVER THE INPUT: true; the input reads as it did. -/
def limbLensSpec : ChangeSpec := { name := "limbLens", fn := fun _ => fun
  | [d] => { results := [.lit (.bool true)], args := [d] }
  | _ => none }
def limbLensRow : OpenClaim := { program := "ytoljemjnhomomaa", sum := "87348bf528d29baa6cc34f0bb2ee88e19143b5251ebf4ece0ccd30adf267d328", func := "sponsion/sponsionlaw01.LimbLens", spec := "limbLens", apart := false }
def LimbLensSaid : Prop := limbLensRow.holds Try.pinned (OpenSpec.ofChange limbLensSpec)

/-- ITS FALSE NEIGHBOUR: 'it returns false'. Refute it at one input. -/
def limbLensWrong : ChangeSpec := { name := "limbLens", fn := fun _ => fun
  | [d] => { results := [.lit (.bool false)], args := [d] }
  | _ => none }
def LimbLensWrongFalsely : Prop := limbLensRow.holds Try.pinned (OpenSpec.ofChange limbLensWrong)

/-- 'sponsionlaw01.LimbMuls': WHATEVER THE INPUT: true; the input reads as it did. -/
def limbMulsSpec : ChangeSpec := { name := "limbMuls", fn := fun _ => fun
  | [d1, d2] => { results := [.lit (.bool true)], args := [d1, d2] }
  | _ => none }
def limbMulsRow : OpenClaim := { program := "ytoljemjnhomomaa", sum := "87348bf528d29baa6cc34f0bb2ee88e19143b5251ebf4ece0ccd30adf267d328", func := "sponsion/sponsionlaw01.LimbMuls", spec := "limbMuls", apart := false }
def LimbMulsSaid : Prop := limbMulsRow.holds Try.pinned (OpenSpec.ofChange limbMulsSpec)

/-- ITS FALSE NEIGHBOUR: 'it returns false'. Refute it at one input. -/
def limbMulsWrong : ChangeSpec := { name := "limbMuls", fn := fun _ => fun
  | [d1, d2] => { results := [.lit (.bool false)], args := [d1, d2] }
  | _ => none }
def LimbMulsWrongFalsely : Prop := limbMulsRow.holds Try.pinned (OpenSpec.ofChange limbMulsWrong)

/-- 'sponsionlaw01.LimbAdds': WHATEVER THE INPUT: true; the input reads as it did. -/
def limbAddsSpec : ChangeSpec := { name := "limbAdds", fn := fun _ => fun
  | [d1, d2, d3] => { results := [.lit (.bool true)], args := [d1, d2, d3] }
  | _ => none }
def limbAddsRow : OpenClaim := { program := "ytoljemjnhomomaa", sum := "87348bf528d29baa6cc34f0bb2ee88e19143b5251ebf4ece0ccd30adf267d328", func := "sponsion/sponsionlaw01.LimbAdds", spec := "limbAdds", apart := false }
def LimbAddsSaid : Prop := limbAddsRow.holds Try.pinned (OpenSpec.ofChange limbAddsSpec)

/-- ITS FALSE NEIGHBOUR: 'it returns false'. Refute it at one input. -/
def limbAddsWrong : ChangeSpec := { name := "limbAdds", fn := fun _ => fun
  | [d1, d2, d3] => { results := [.lit (.bool false)], args := [d1, d2, d3] }
  | _ => none }
def LimbAddsWrongFalsely : Prop := limbAddsRow.holds Try.pinned (OpenSpec.ofChange limbAddsWrong)

/-- 'sponsionlaw01.LimbBack': WHATEVER THE INPUT: true; the input reads as it did. -/
def limbBackSpec : ChangeSpec := { name := "limbBack", fn := fun _ => fun
  | [d1, d2, d3] => { results := [.lit (.bool true)], args := [d1, d2, d3] }
  | _ => none }
def limbBackRow : OpenClaim := { program := "ytoljemjnhomomaa", sum := "87348bf528d29baa6cc34f0bb2ee88e19143b5251ebf4ece0ccd30adf267d328", func := "sponsion/sponsionlaw01.LimbBack", spec := "limbBack", apart := false }
def LimbBackSaid : Prop := limbBackRow.holds Try.pinned (OpenSpec.ofChange limbBackSpec)

/-- ITS FALSE NEIGHBOUR: 'it returns false'. Refute it at one input. -/
def limbBackWrong : ChangeSpec := { name := "limbBack", fn := fun _ => fun
  | [d1, d2, d3] => { results := [.lit (.bool false)], args := [d1, d2, d3] }
  | _ => none }
def LimbBackWrongFalsely : Prop := limbBackRow.holds Try.pinned (OpenSpec.ofChange limbBackWrong)

/-- 'sponsionlaw02.HugeLows': WHATEVER THE INPUT: true; the input reads as it did. -/
def hugeLowsSpec : ChangeSpec := { name := "hugeLows", fn := fun _ => fun
  | [d1, d2] => { results := [.lit (.bool true)], args := [d1, d2] }
  | _ => none }
def hugeLowsRow : OpenClaim := { program := "ytoljemjnhomomaa", sum := "87348bf528d29baa6cc34f0bb2ee88e19143b5251ebf4ece0ccd30adf267d328", func := "sponsion/sponsionlaw02.HugeLows", spec := "hugeLows", unfollowed := true, recurses := true, apart := false }
def HugeLowsSaid : Prop := hugeLowsRow.holds Try.pinned (OpenSpec.ofChange hugeLowsSpec)

/-- ITS FALSE NEIGHBOUR: 'it returns false'. Refute it at one input. -/
def hugeLowsWrong : ChangeSpec := { name := "hugeLows", fn := fun _ => fun
  | [d1, d2] => { results := [.lit (.bool false)], args := [d1, d2] }
  | _ => none }
def HugeLowsWrongFalsely : Prop := hugeLowsRow.holds Try.pinned (OpenSpec.ofChange hugeLowsWrong)

/-- 'sponsionlaw02.HugeSums': WHATEVER THE INPUT: true; the input reads as it did. -/
def hugeSumsSpec : ChangeSpec := { name := "hugeSums", fn := fun _ => fun
  | [d] => { results := [.lit (.bool true)], args := [d] }
  | _ => none }
def hugeSumsRow : OpenClaim := { program := "ytoljemjnhomomaa", sum := "87348bf528d29baa6cc34f0bb2ee88e19143b5251ebf4ece0ccd30adf267d328", func := "sponsion/sponsionlaw02.HugeSums", spec := "hugeSums", unfollowed := true, recurses := true, apart := false }
def HugeSumsSaid : Prop := hugeSumsRow.holds Try.pinned (OpenSpec.ofChange hugeSumsSpec)

/-- ITS FALSE NEIGHBOUR: 'it returns false'. Refute it at one input. -/
def hugeSumsWrong : ChangeSpec := { name := "hugeSums", fn := fun _ => fun
  | [d] => { results := [.lit (.bool false)], args := [d] }
  | _ => none }
def HugeSumsWrongFalsely : Prop := hugeSumsRow.holds Try.pinned (OpenSpec.ofChange hugeSumsWrong)

/-- 'sponsionlaw02.HugeAdds': WHATEVER THE INPUT: true; the input reads as it did. -/
def hugeAddsSpec : ChangeSpec := { name := "hugeAdds", fn := fun _ => fun
  | [d1, d2] => { results := [.lit (.bool true)], args := [d1, d2] }
  | _ => none }
def hugeAddsRow : OpenClaim := { program := "ytoljemjnhomomaa", sum := "87348bf528d29baa6cc34f0bb2ee88e19143b5251ebf4ece0ccd30adf267d328", func := "sponsion/sponsionlaw02.HugeAdds", spec := "hugeAdds", unfollowed := true, recurses := true, apart := false }
def HugeAddsSaid : Prop := hugeAddsRow.holds Try.pinned (OpenSpec.ofChange hugeAddsSpec)

/-- ITS FALSE NEIGHBOUR: 'it returns false'. Refute it at one input. -/
def hugeAddsWrong : ChangeSpec := { name := "hugeAdds", fn := fun _ => fun
  | [d1, d2] => { results := [.lit (.bool false)], args := [d1, d2] }
  | _ => none }
def HugeAddsWrongFalsely : Prop := hugeAddsRow.holds Try.pinned (OpenSpec.ofChange hugeAddsWrong)

/-- 'sponsionlaw02.HugeBytes': WHATEVER THE INPUT: true; the input reads as it did. -/
def hugeBytesSpec : ChangeSpec := { name := "hugeBytes", fn := fun _ => fun
  | [d1, d2] => { results := [.lit (.bool true)], args := [d1, d2] }
  | _ => none }
def hugeBytesRow : OpenClaim := { program := "ytoljemjnhomomaa", sum := "87348bf528d29baa6cc34f0bb2ee88e19143b5251ebf4ece0ccd30adf267d328", func := "sponsion/sponsionlaw02.HugeBytes", spec := "hugeBytes", unfollowed := true, recurses := true, apart := false }
def HugeBytesSaid : Prop := hugeBytesRow.holds Try.pinned (OpenSpec.ofChange hugeBytesSpec)

/-- ITS FALSE NEIGHBOUR: 'it returns false'. Refute it at one input. -/
def hugeBytesWrong : ChangeSpec := { name := "hugeBytes", fn := fun _ => fun
  | [d1, d2] => { results := [.lit (.bool false)], args := [d1, d2] }
  | _ => none }
def HugeBytesWrongFalsely : Prop := hugeBytesRow.holds Try.pinned (OpenSpec.ofChange hugeBytesWrong)

/-- 'sponsionlaw02.HugeMuls': WHATEVER THE INPUT: true; the input reads as it did. -/
def hugeMulsSpec : ChangeSpec := { name := "hugeMuls", fn := fun _ => fun
  | [d1, d2, d3] => { results := [.lit (.bool true)], args := [d1, d2, d3] }
  | _ => none }
def hugeMulsRow : OpenClaim := { program := "ytoljemjnhomomaa", sum := "87348bf528d29baa6cc34f0bb2ee88e19143b5251ebf4ece0ccd30adf267d328", func := "sponsion/sponsionlaw02.HugeMuls", spec := "hugeMuls", unfollowed := true, recurses := true, apart := false }
def HugeMulsSaid : Prop := hugeMulsRow.holds Try.pinned (OpenSpec.ofChange hugeMulsSpec)

/-- ITS FALSE NEIGHBOUR: 'it returns false'. Refute it at one input. -/
def hugeMulsWrong : ChangeSpec := { name := "hugeMuls", fn := fun _ => fun
  | [d1, d2, d3] => { results := [.lit (.bool false)], args := [d1, d2, d3] }
  | _ => none }
def HugeMulsWrongFalsely : Prop := hugeMulsRow.holds Try.pinned (OpenSpec.ofChange hugeMulsWrong)

/-- 'sponsionlaw02.HugeTexts': WHATEVER THE INPUT: true; the input reads as it did. -/
def hugeTextsSpec : ChangeSpec := { name := "hugeTexts", fn := fun _ => fun
  | [d1, d2] => { results := [.lit (.bool true)], args := [d1, d2] }
  | _ => none }
def hugeTextsRow : OpenClaim := { program := "ytoljemjnhomomaa", sum := "87348bf528d29baa6cc34f0bb2ee88e19143b5251ebf4ece0ccd30adf267d328", func := "sponsion/sponsionlaw02.HugeTexts", spec := "hugeTexts", unfollowed := true, recurses := true, apart := false }
def HugeTextsSaid : Prop := hugeTextsRow.holds Try.pinned (OpenSpec.ofChange hugeTextsSpec)

/-- ITS FALSE NEIGHBOUR: 'it returns false'. Refute it at one input. -/
def hugeTextsWrong : ChangeSpec := { name := "hugeTexts", fn := fun _ => fun
  | [d1, d2] => { results := [.lit (.bool false)], args := [d1, d2] }
  | _ => none }
def HugeTextsWrongFalsely : Prop := hugeTextsRow.holds Try.pinned (OpenSpec.ofChange hugeTextsWrong)

/- THE SECOND FORM. 'bulk': how many values and letters a reading holds, each counted each time it is reached (what is shared counts as often as it is met; a slice's spare places count too). A statement '..UptoSaid' is the law's where the arguments, and the package variables that the reading takes, are together of bulk at most 1048576: NARROWER than '..Said'. Prove '..Said' where nothing that the law and all that it calls make is longer than what came in: it says more and counts as full. Else prove '..UptoSaid'. A law counts once. -/
mutual
def uptoBulk {H : Type} : DataW H → Nat
  | .lit (.string bytes) => bytes.length + 1
  | .lit _ => 1
  | .nil => 1
  | .ptr d => uptoBulk d + 1
  | .slice elems spare => uptoBulkAll elems + uptoBulkAll spare + 1
  | .agg parts => uptoBulkAll parts + 1
  | .iface _ d => uptoBulk d + 1
  | .map entries => uptoBulkEntries entries + 1
  | .held _ => 1
def uptoBulkAll {H : Type} : List (DataW H) → Nat
  | [] => 0
  | d :: r => uptoBulk d + uptoBulkAll r
def uptoBulkEntries {H : Type} : List (Lit × DataW H) → Nat
  | [] => 0
  | x :: r => uptoBulkEntry x + uptoBulkEntries r
def uptoBulkEntry {H : Type} : Lit × DataW H → Nat
  | (.string bytes, d) => bytes.length + uptoBulk d + 1
  | (_, d) => uptoBulk d + 1
 end
def uptoSmall : (H : Type) → List (DataW H) → Bool := fun _ ds => decide (uptoBulkAll ds ≤ 1048576)
def OpenSpec.upto (s : _root_.Go.ChangeSpec) : _root_.Go.OpenSpec := { _root_.Go.OpenSpec.ofChange s with cond := some uptoSmall }

/-- 'sponsionlaw01.LimbDivs', WHERE WHAT IT READS IS OF BULK AT MOST 1048576: true; the input reads as it did. -/
def limbDivsUptoRow : OpenClaim := { program := "ytoljemjnhomomaa", sum := "87348bf528d29baa6cc34f0bb2ee88e19143b5251ebf4ece0ccd30adf267d328", func := "sponsion/sponsionlaw01.LimbDivs", spec := "limbDivs", apart := false, narrowed := true }
def LimbDivsUptoSaid : Prop := limbDivsUptoRow.holds Try.pinned (OpenSpec.upto limbDivsSpec)

/-- 'sponsionlaw01.LimbLens', WHERE WHAT IT READS IS OF BULK AT MOST 1048576: true; the input reads as it did. -/
def limbLensUptoRow : OpenClaim := { program := "ytoljemjnhomomaa", sum := "87348bf528d29baa6cc34f0bb2ee88e19143b5251ebf4ece0ccd30adf267d328", func := "sponsion/sponsionlaw01.LimbLens", spec := "limbLens", apart := false, narrowed := true }
def LimbLensUptoSaid : Prop := limbLensUptoRow.holds Try.pinned (OpenSpec.upto limbLensSpec)

/-- 'sponsionlaw01.LimbMuls', WHERE WHAT IT READS IS OF BULK AT MOST 1048576: true; the input reads as it did. -/
def limbMulsUptoRow : OpenClaim := { program := "ytoljemjnhomomaa", sum := "87348bf528d29baa6cc34f0bb2ee88e19143b5251ebf4ece0ccd30adf267d328", func := "sponsion/sponsionlaw01.LimbMuls", spec := "limbMuls", apart := false, narrowed := true }
def LimbMulsUptoSaid : Prop := limbMulsUptoRow.holds Try.pinned (OpenSpec.upto limbMulsSpec)

/-- 'sponsionlaw01.LimbAdds', WHERE WHAT IT READS IS OF BULK AT MOST 1048576: true; the input reads as it did. -/
def limbAddsUptoRow : OpenClaim := { program := "ytoljemjnhomomaa", sum := "87348bf528d29baa6cc34f0bb2ee88e19143b5251ebf4ece0ccd30adf267d328", func := "sponsion/sponsionlaw01.LimbAdds", spec := "limbAdds", apart := false, narrowed := true }
def LimbAddsUptoSaid : Prop := limbAddsUptoRow.holds Try.pinned (OpenSpec.upto limbAddsSpec)

/-- 'sponsionlaw01.LimbBack', WHERE WHAT IT READS IS OF BULK AT MOST 1048576: true; the input reads as it did. -/
def limbBackUptoRow : OpenClaim := { program := "ytoljemjnhomomaa", sum := "87348bf528d29baa6cc34f0bb2ee88e19143b5251ebf4ece0ccd30adf267d328", func := "sponsion/sponsionlaw01.LimbBack", spec := "limbBack", apart := false, narrowed := true }
def LimbBackUptoSaid : Prop := limbBackUptoRow.holds Try.pinned (OpenSpec.upto limbBackSpec)

/-- 'sponsionlaw02.HugeLows', WHERE WHAT IT READS IS OF BULK AT MOST 1048576: true; the input reads as it did. -/
def hugeLowsUptoRow : OpenClaim := { program := "ytoljemjnhomomaa", sum := "87348bf528d29baa6cc34f0bb2ee88e19143b5251ebf4ece0ccd30adf267d328", func := "sponsion/sponsionlaw02.HugeLows", spec := "hugeLows", unfollowed := true, recurses := true, apart := false, narrowed := true }
def HugeLowsUptoSaid : Prop := hugeLowsUptoRow.holds Try.pinned (OpenSpec.upto hugeLowsSpec)

/-- 'sponsionlaw02.HugeSums', WHERE WHAT IT READS IS OF BULK AT MOST 1048576: true; the input reads as it did. -/
def hugeSumsUptoRow : OpenClaim := { program := "ytoljemjnhomomaa", sum := "87348bf528d29baa6cc34f0bb2ee88e19143b5251ebf4ece0ccd30adf267d328", func := "sponsion/sponsionlaw02.HugeSums", spec := "hugeSums", unfollowed := true, recurses := true, apart := false, narrowed := true }
def HugeSumsUptoSaid : Prop := hugeSumsUptoRow.holds Try.pinned (OpenSpec.upto hugeSumsSpec)

/-- 'sponsionlaw02.HugeAdds', WHERE WHAT IT READS IS OF BULK AT MOST 1048576: true; the input reads as it did. -/
def hugeAddsUptoRow : OpenClaim := { program := "ytoljemjnhomomaa", sum := "87348bf528d29baa6cc34f0bb2ee88e19143b5251ebf4ece0ccd30adf267d328", func := "sponsion/sponsionlaw02.HugeAdds", spec := "hugeAdds", unfollowed := true, recurses := true, apart := false, narrowed := true }
def HugeAddsUptoSaid : Prop := hugeAddsUptoRow.holds Try.pinned (OpenSpec.upto hugeAddsSpec)

/-- 'sponsionlaw02.HugeBytes', WHERE WHAT IT READS IS OF BULK AT MOST 1048576: true; the input reads as it did. -/
def hugeBytesUptoRow : OpenClaim := { program := "ytoljemjnhomomaa", sum := "87348bf528d29baa6cc34f0bb2ee88e19143b5251ebf4ece0ccd30adf267d328", func := "sponsion/sponsionlaw02.HugeBytes", spec := "hugeBytes", unfollowed := true, recurses := true, apart := false, narrowed := true }
def HugeBytesUptoSaid : Prop := hugeBytesUptoRow.holds Try.pinned (OpenSpec.upto hugeBytesSpec)

/-- 'sponsionlaw02.HugeMuls', WHERE WHAT IT READS IS OF BULK AT MOST 1048576: true; the input reads as it did. -/
def hugeMulsUptoRow : OpenClaim := { program := "ytoljemjnhomomaa", sum := "87348bf528d29baa6cc34f0bb2ee88e19143b5251ebf4ece0ccd30adf267d328", func := "sponsion/sponsionlaw02.HugeMuls", spec := "hugeMuls", unfollowed := true, recurses := true, apart := false, narrowed := true }
def HugeMulsUptoSaid : Prop := hugeMulsUptoRow.holds Try.pinned (OpenSpec.upto hugeMulsSpec)

/-- 'sponsionlaw02.HugeTexts', WHERE WHAT IT READS IS OF BULK AT MOST 1048576: true; the input reads as it did. -/
def hugeTextsUptoRow : OpenClaim := { program := "ytoljemjnhomomaa", sum := "87348bf528d29baa6cc34f0bb2ee88e19143b5251ebf4ece0ccd30adf267d328", func := "sponsion/sponsionlaw02.HugeTexts", spec := "hugeTexts", unfollowed := true, recurses := true, apart := false, narrowed := true }
def HugeTextsUptoSaid : Prop := hugeTextsUptoRow.holds Try.pinned (OpenSpec.upto hugeTextsSpec)

end Rows
end Go.Proofs.Ytoljemjnhomomaa
