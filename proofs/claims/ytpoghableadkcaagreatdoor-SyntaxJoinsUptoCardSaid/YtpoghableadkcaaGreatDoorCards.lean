/-
  DERIVED. GIVEN WITH THE SEED: THE CARDS: each row of YtpoghableadkcaaGreatDoorRows.lean that lists a variable, with what it lists TIED to the program's text (the seventh form; the later family's looks); each row that meets fmt, with fmt's text TOLD by the authors' own Lean function (tested against real Go, not proved from fmt's source: count such statements apart). THE CARD IS WHAT COUNTS. Prove the row's statement (the work); the ties are given (YtpoghableadkcaaGreatDoorTie.lean); close each card by the builder's one call (the guide's Derived/Test/ToyasCard.lean, 'card_holds'). Laid BY PROGRAM, IN A SANDBOX (cutbox-door.mjs). By AI agents, Wed Nov 11 2026. No macro, syntax, notation, axiom, sorry.
-/
import Derived.Test.YtpoghableadkcaaGreatDoorRows
import GoSem.ClaimSeven
namespace Go.Proofs.YtpoghableadkcaaGreatDoor
namespace Rows

/-- THE TIED CARD OF 'sextantlaw03.SyntaxJoins'. -/
def syntaxJoinsCard : Claim7 := { stood := { row := syntaxJoinsRow, standIns := [], harness := (true, "a0c3234fad0b739c182ee2c6aa598a0ef5b1f24152a2d9dc3123de316d5446cf"), looks := true }, kinds := [], alts := [], laidByText := true, laidKinds := [.listed, .data], laidTests := true, laidLooks := .later }
def SyntaxJoinsCardSaid : Prop := Claim7.holds Tryz.pinned (.plain (OpenSpec.ofChange syntaxJoinsSpec)) syntaxJoinsCard

/-- THE TIED CARD OF 'sextantlaw03.SyntaxParens'. -/
def syntaxParensCard : Claim7 := { stood := { row := syntaxParensRow, standIns := [], harness := (true, "a0c3234fad0b739c182ee2c6aa598a0ef5b1f24152a2d9dc3123de316d5446cf"), looks := true }, kinds := [], alts := [], laidByText := true, laidKinds := [.listed, .data], laidTests := true, laidLooks := .later }
def SyntaxParensCardSaid : Prop := Claim7.holds Tryz.pinned (.plain (OpenSpec.ofChange syntaxParensSpec)) syntaxParensCard

/-- THE TIED CARD OF 'sextantlaw03.SyntaxLevels'. -/
def syntaxLevelsCard : Claim7 := { stood := { row := syntaxLevelsRow, standIns := [], harness := (true, "a0c3234fad0b739c182ee2c6aa598a0ef5b1f24152a2d9dc3123de316d5446cf"), looks := true }, kinds := [], alts := [], laidByText := true, laidKinds := [.listed, .data], laidTests := true, laidLooks := .later }
def SyntaxLevelsCardSaid : Prop := Claim7.holds Tryz.pinned (.plain (OpenSpec.ofChange syntaxLevelsSpec)) syntaxLevelsCard

/-- THE TIED CARD OF 'sextantlaw03.SyntaxSame'. -/
def syntaxSameCard : Claim7 := { stood := { row := syntaxSameRow, standIns := [], harness := (true, "a0c3234fad0b739c182ee2c6aa598a0ef5b1f24152a2d9dc3123de316d5446cf"), looks := true }, kinds := [], alts := [], laidByText := true, laidKinds := [.listed, .data], laidTests := true, laidLooks := .later }
def SyntaxSameCardSaid : Prop := Claim7.holds Tryz.pinned (.plain (OpenSpec.ofChange syntaxSameSpec)) syntaxSameCard

/-- THE SECOND FORM's CARD OF 'sextantlaw03.SyntaxJoins'. -/
def syntaxJoinsUptoCard : Claim7 := { stood := { row := syntaxJoinsUptoRow, standIns := [], harness := (true, "a0c3234fad0b739c182ee2c6aa598a0ef5b1f24152a2d9dc3123de316d5446cf"), looks := true }, kinds := [], alts := [], laidByText := true, laidKinds := [.listed, .data], laidTests := true, laidLooks := .later }
def SyntaxJoinsUptoCardSaid : Prop := Claim7.holds Tryz.pinned (.plain (OpenSpec.upto syntaxJoinsSpec)) syntaxJoinsUptoCard

/-- THE SECOND FORM's CARD OF 'sextantlaw03.SyntaxParens'. -/
def syntaxParensUptoCard : Claim7 := { stood := { row := syntaxParensUptoRow, standIns := [], harness := (true, "a0c3234fad0b739c182ee2c6aa598a0ef5b1f24152a2d9dc3123de316d5446cf"), looks := true }, kinds := [], alts := [], laidByText := true, laidKinds := [.listed, .data], laidTests := true, laidLooks := .later }
def SyntaxParensUptoCardSaid : Prop := Claim7.holds Tryz.pinned (.plain (OpenSpec.upto syntaxParensSpec)) syntaxParensUptoCard

/-- THE SECOND FORM's CARD OF 'sextantlaw03.SyntaxLevels'. -/
def syntaxLevelsUptoCard : Claim7 := { stood := { row := syntaxLevelsUptoRow, standIns := [], harness := (true, "a0c3234fad0b739c182ee2c6aa598a0ef5b1f24152a2d9dc3123de316d5446cf"), looks := true }, kinds := [], alts := [], laidByText := true, laidKinds := [.listed, .data], laidTests := true, laidLooks := .later }
def SyntaxLevelsUptoCardSaid : Prop := Claim7.holds Tryz.pinned (.plain (OpenSpec.upto syntaxLevelsSpec)) syntaxLevelsUptoCard

/-- THE SECOND FORM's CARD OF 'sextantlaw03.SyntaxSame'. -/
def syntaxSameUptoCard : Claim7 := { stood := { row := syntaxSameUptoRow, standIns := [], harness := (true, "a0c3234fad0b739c182ee2c6aa598a0ef5b1f24152a2d9dc3123de316d5446cf"), looks := true }, kinds := [], alts := [], laidByText := true, laidKinds := [.listed, .data], laidTests := true, laidLooks := .later }
def SyntaxSameUptoCardSaid : Prop := Claim7.holds Tryz.pinned (.plain (OpenSpec.upto syntaxSameSpec)) syntaxSameUptoCard
end Rows
end Go.Proofs.YtpoghableadkcaaGreatDoor
