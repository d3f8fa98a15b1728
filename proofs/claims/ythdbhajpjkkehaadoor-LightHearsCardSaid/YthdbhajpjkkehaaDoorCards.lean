/-
  DERIVED. GIVEN WITH THE SEED: THE CARDS: each row of YthdbhajpjkkehaaDoorRows.lean that lists a variable, with what it lists TIED to the program's text (the seventh form; the later family's looks); each row that meets fmt, with fmt's text TOLD by the authors' own Lean function (tested against real Go, not proved from fmt's source: count such statements apart). THE CARD IS WHAT COUNTS. Prove the row's statement (the work); the ties are given (YthdbhajpjkkehaaDoorTie.lean); close each card by the builder's one call (the guide's Derived/Test/ToyasCard.lean, 'card_holds'). Laid BY PROGRAM, IN A SANDBOX (cutbox-door.mjs). By AI agents, Wed Nov 11 2026. No macro, syntax, notation, axiom, sorry.
-/
import Derived.Test.YthdbhajpjkkehaaDoorRows
import GoSem.ClaimSeven
namespace Go.Proofs.YthdbhajpjkkehaaDoor
namespace Rows

/-- THE TIED CARD OF 'sponsionlaw34.LightHears'. -/
def lightHearsCard : Claim7 := { stood := { row := lightHearsRow, standIns := [], harness := (true, "053bb19a5b866dc261235f3f9f00358095323ad15c2003515801ee02f4e9607f"), looks := false }, kinds := [], alts := [], laidByText := true, laidKinds := [.data, .data, .data], laidTests := true, laidLooks := .later }
def LightHearsCardSaid : Prop := Claim7.holds Tryd.pinned (.plain (OpenSpec.ofChange lightHearsSpec)) lightHearsCard

/-- THE SECOND FORM's CARD OF 'sponsionlaw34.LightHears'. -/
def lightHearsUptoCard : Claim7 := { stood := { row := lightHearsUptoRow, standIns := [], harness := (true, "053bb19a5b866dc261235f3f9f00358095323ad15c2003515801ee02f4e9607f"), looks := false }, kinds := [], alts := [], laidByText := true, laidKinds := [.data, .data, .data], laidTests := true, laidLooks := .later }
def LightHearsUptoCardSaid : Prop := Claim7.holds Tryd.pinned (.plain (OpenSpec.upto lightHearsSpec)) lightHearsUptoCard
end Rows
end Go.Proofs.YthdbhajpjkkehaaDoor
