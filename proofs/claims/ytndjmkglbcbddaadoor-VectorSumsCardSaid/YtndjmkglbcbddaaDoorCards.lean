/-
  DERIVED. GIVEN WITH THE SEED: THE CARDS: each row of YtndjmkglbcbddaaDoorRows.lean that lists a variable, with what it lists TIED to the program's text (the seventh form; the later family's looks); each row that meets fmt, with fmt's text TOLD by the authors' own Lean function (tested against real Go, not proved from fmt's source: count such statements apart). THE CARD IS WHAT COUNTS. Prove the row's statement (the work); the ties are given (YtndjmkglbcbddaaDoorTie.lean); close each card by the builder's one call (the guide's Derived/Test/ToyasCard.lean, 'card_holds'). Laid BY PROGRAM, IN A SANDBOX (cutbox-door.mjs). By AI agents, Wed Nov 11 2026. No macro, syntax, notation, axiom, sorry.
-/
import Derived.Test.YtndjmkglbcbddaaDoorRows
import GoSem.ClaimSeven
namespace Go.Proofs.YtndjmkglbcbddaaDoor
namespace Rows

/-- THE TIED CARD OF 'berthinglaw04.VectorSums'. -/
def vectorSumsCard : Claim7 := { stood := { row := vectorSumsRow, standIns := [], harness := (true, "60186006056c5a57048151de4602ef0e550174e504e06323e313268174d7aab7"), looks := false }, kinds := [], alts := [], laidByText := true, laidKinds := [.data, .pinned], laidTests := true, laidLooks := .later }
def VectorSumsCardSaid : Prop := Claim7.holds Tryd.pinned (.plain (OpenSpec.ofChange vectorSumsSpec)) vectorSumsCard

/-- THE SECOND FORM's CARD OF 'berthinglaw04.VectorSums'. -/
def vectorSumsUptoCard : Claim7 := { stood := { row := vectorSumsUptoRow, standIns := [], harness := (true, "60186006056c5a57048151de4602ef0e550174e504e06323e313268174d7aab7"), looks := false }, kinds := [], alts := [], laidByText := true, laidKinds := [.data, .pinned], laidTests := true, laidLooks := .later }
def VectorSumsUptoCardSaid : Prop := Claim7.holds Tryd.pinned (.plain (OpenSpec.upto vectorSumsSpec)) vectorSumsUptoCard
end Rows
end Go.Proofs.YtndjmkglbcbddaaDoor
