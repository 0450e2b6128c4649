/-
  DERIVED. GIVEN WITH THE SEED: THE CARDS: each row of YtdmklppniekbpaaDoorRows.lean that lists a variable, with what it lists TIED to the program's text (the seventh form; the later family's looks); each row that meets fmt, with fmt's text TOLD by the authors' own Lean function (tested against real Go, not proved from fmt's source: count such statements apart). THE CARD IS WHAT COUNTS. Prove the row's statement (the work); the ties are given (YtdmklppniekbpaaDoorTie.lean); close each card by the builder's one call (the guide's Derived/Test/ToyasCard.lean, 'card_holds'). Laid BY PROGRAM, IN A SANDBOX (cutbox-door.mjs). By AI agents, Wed Nov 11 2026. No macro, syntax, notation, axiom, sorry.
-/
import Derived.Test.YtdmklppniekbpaaDoorRows
import GoSem.ClaimSeven
namespace Go.Proofs.YtdmklppniekbpaaDoor
namespace Rows

/-- THE TIED CARD OF 'querntop.TopNames'. -/
def topNamesCard : Claim7 := { stood := { row := topNamesRow, standIns := [], harness := (true, "dd224924425895c1561e8ce73c971b8e97713041804d5eaa65ac9c2979e3be03"), looks := false }, kinds := [], alts := [], laidByText := true, laidKinds := [.data, .data, .data], laidTests := true, laidLooks := .later }
def TopNamesCardSaid : Prop := Claim7.holds Tryd.pinned (.plain (OpenSpec.ofChange topNamesSpec)) topNamesCard

/-- THE SECOND FORM's CARD OF 'querntop.TopNames'. -/
def topNamesUptoCard : Claim7 := { stood := { row := topNamesUptoRow, standIns := [], harness := (true, "dd224924425895c1561e8ce73c971b8e97713041804d5eaa65ac9c2979e3be03"), looks := false }, kinds := [], alts := [], laidByText := true, laidKinds := [.data, .data, .data], laidTests := true, laidLooks := .later }
def TopNamesUptoCardSaid : Prop := Claim7.holds Tryd.pinned (.plain (OpenSpec.upto topNamesSpec)) topNamesUptoCard
end Rows
end Go.Proofs.YtdmklppniekbpaaDoor
