/-
  DERIVED. GIVEN WITH THE SEED: THE CARDS: each row of YtpoghableadkcaaDoorRows.lean that lists a variable, with what it lists TIED to the program's text (the seventh form; the later family's looks); each row that meets fmt, with fmt's text TOLD by the authors' own Lean function (tested against real Go, not proved from fmt's source: count such statements apart). THE CARD IS WHAT COUNTS. Prove the row's statement (the work); the ties are given (YtpoghableadkcaaDoorTie.lean); close each card by the builder's one call (the guide's Derived/Test/ToyasCard.lean, 'card_holds'). Laid BY PROGRAM, IN A SANDBOX (cutbox-door.mjs). By AI agents, Wed Nov 11 2026. No macro, syntax, notation, axiom, sorry.
-/
import Derived.Test.YtpoghableadkcaaDoorRows
import GoSem.ClaimSeven
namespace Go.Proofs.YtpoghableadkcaaDoor
namespace Rows

/-- THE TIED CARD OF 'sextantlaw03.SyntaxDeep'. -/
def syntaxDeepCard : Claim7 := { stood := { row := syntaxDeepRow, standIns := [], harness := (true, "6c1c9e580eb6a93999c507eaabb39fc7948e4bf8b6ae01f4a462ec75ff966ad8"), looks := true }, kinds := [], alts := [], laidByText := true, laidKinds := [.listed, .data], laidTests := true, laidLooks := .later }
def SyntaxDeepCardSaid : Prop := Claim7.holds Tryd.pinned (.plain (OpenSpec.ofChange syntaxDeepSpec)) syntaxDeepCard

/-- THE SECOND FORM's CARD OF 'sextantlaw03.SyntaxDeep'. -/
def syntaxDeepUptoCard : Claim7 := { stood := { row := syntaxDeepUptoRow, standIns := [], harness := (true, "6c1c9e580eb6a93999c507eaabb39fc7948e4bf8b6ae01f4a462ec75ff966ad8"), looks := true }, kinds := [], alts := [], laidByText := true, laidKinds := [.listed, .data], laidTests := true, laidLooks := .later }
def SyntaxDeepUptoCardSaid : Prop := Claim7.holds Tryd.pinned (.plain (OpenSpec.upto syntaxDeepSpec)) syntaxDeepUptoCard
end Rows
end Go.Proofs.YtpoghableadkcaaDoor
