/-
  DERIVED. GIVEN WITH THE SEED: THE CARDS: each row of YtelanndleinabaaDoorRows.lean that lists a variable, with what it lists TIED to the program's text (the seventh form; the later family's looks); each row that meets fmt, with fmt's text TOLD by the authors' own Lean function (tested against real Go, not proved from fmt's source: count such statements apart). THE CARD IS WHAT COUNTS. Prove the row's statement (the work); the ties are given (YtelanndleinabaaDoorTie.lean); close each card by the builder's one call (the guide's Derived/Test/ToyasCard.lean, 'card_holds'). Laid BY PROGRAM, IN A SANDBOX (cutbox-door.mjs). By AI agents, Wed Nov 11 2026. No macro, syntax, notation, axiom, sorry.
-/
import Derived.Test.YtelanndleinabaaDoorRows
import GoSem.ClaimSeven
namespace Go.Proofs.YtelanndleinabaaDoor
namespace Rows

/-- THE TIED CARD OF 'sextantlaw12.GeneralAccepts'. -/
def generalAcceptsCard : Claim7 := { stood := { row := generalAcceptsRow, standIns := [], harness := (true, "dcee1cbd1bf61e70faf61001c2ac7be00e0b78015af8cb1bfd37f90c15b02032"), looks := true }, kinds := [], alts := [], laidByText := true, laidKinds := [.data, .data, .data], laidTests := true, laidLooks := .later }
def GeneralAcceptsCardSaid : Prop := Claim7.holds Tryd.pinned (.plain (OpenSpec.ofChange generalAcceptsSpec)) generalAcceptsCard

/-- THE TIED CARD OF 'sextantlaw12.GeneralForms'. -/
def generalFormsCard : Claim7 := { stood := { row := generalFormsRow, standIns := [], harness := (true, "dcee1cbd1bf61e70faf61001c2ac7be00e0b78015af8cb1bfd37f90c15b02032"), looks := true }, kinds := [], alts := [], laidByText := true, laidKinds := [.data, .data, .data], laidTests := true, laidLooks := .later }
def GeneralFormsCardSaid : Prop := Claim7.holds Tryd.pinned (.plain (OpenSpec.ofChange generalFormsSpec)) generalFormsCard

/-- THE TIED CARD OF 'sextantlaw12.GeneralSays'. -/
def generalSaysCard : Claim7 := { stood := { row := generalSaysRow, standIns := [], harness := (true, "dcee1cbd1bf61e70faf61001c2ac7be00e0b78015af8cb1bfd37f90c15b02032"), looks := true }, kinds := [], alts := [], laidByText := true, laidKinds := [.data, .data, .data], laidTests := true, laidLooks := .later }
def GeneralSaysCardSaid : Prop := Claim7.holds Tryd.pinned (.plain (OpenSpec.ofChange generalSaysSpec)) generalSaysCard

/-- THE TIED CARD OF 'sextantlaw12.GeneralMore'. -/
def generalMoreCard : Claim7 := { stood := { row := generalMoreRow, standIns := [], harness := (true, "dcee1cbd1bf61e70faf61001c2ac7be00e0b78015af8cb1bfd37f90c15b02032"), looks := true }, kinds := [], alts := [], laidByText := true, laidKinds := [.data, .data, .data], laidTests := true, laidLooks := .later }
def GeneralMoreCardSaid : Prop := Claim7.holds Tryd.pinned (.plain (OpenSpec.ofChange generalMoreSpec)) generalMoreCard

/-- THE TIED CARD OF 'sextantlaw12.GeneralEither'. -/
def generalEitherCard : Claim7 := { stood := { row := generalEitherRow, standIns := [], harness := (true, "dcee1cbd1bf61e70faf61001c2ac7be00e0b78015af8cb1bfd37f90c15b02032"), looks := true }, kinds := [], alts := [], laidByText := true, laidKinds := [.data, .data, .data], laidTests := true, laidLooks := .later }
def GeneralEitherCardSaid : Prop := Claim7.holds Tryd.pinned (.plain (OpenSpec.ofChange generalEitherSpec)) generalEitherCard

/-- THE SECOND FORM's CARD OF 'sextantlaw12.GeneralAccepts'. -/
def generalAcceptsUptoCard : Claim7 := { stood := { row := generalAcceptsUptoRow, standIns := [], harness := (true, "dcee1cbd1bf61e70faf61001c2ac7be00e0b78015af8cb1bfd37f90c15b02032"), looks := true }, kinds := [], alts := [], laidByText := true, laidKinds := [.data, .data, .data], laidTests := true, laidLooks := .later }
def GeneralAcceptsUptoCardSaid : Prop := Claim7.holds Tryd.pinned (.plain (OpenSpec.upto generalAcceptsSpec)) generalAcceptsUptoCard

/-- THE SECOND FORM's CARD OF 'sextantlaw12.GeneralForms'. -/
def generalFormsUptoCard : Claim7 := { stood := { row := generalFormsUptoRow, standIns := [], harness := (true, "dcee1cbd1bf61e70faf61001c2ac7be00e0b78015af8cb1bfd37f90c15b02032"), looks := true }, kinds := [], alts := [], laidByText := true, laidKinds := [.data, .data, .data], laidTests := true, laidLooks := .later }
def GeneralFormsUptoCardSaid : Prop := Claim7.holds Tryd.pinned (.plain (OpenSpec.upto generalFormsSpec)) generalFormsUptoCard

/-- THE SECOND FORM's CARD OF 'sextantlaw12.GeneralSays'. -/
def generalSaysUptoCard : Claim7 := { stood := { row := generalSaysUptoRow, standIns := [], harness := (true, "dcee1cbd1bf61e70faf61001c2ac7be00e0b78015af8cb1bfd37f90c15b02032"), looks := true }, kinds := [], alts := [], laidByText := true, laidKinds := [.data, .data, .data], laidTests := true, laidLooks := .later }
def GeneralSaysUptoCardSaid : Prop := Claim7.holds Tryd.pinned (.plain (OpenSpec.upto generalSaysSpec)) generalSaysUptoCard

/-- THE SECOND FORM's CARD OF 'sextantlaw12.GeneralMore'. -/
def generalMoreUptoCard : Claim7 := { stood := { row := generalMoreUptoRow, standIns := [], harness := (true, "dcee1cbd1bf61e70faf61001c2ac7be00e0b78015af8cb1bfd37f90c15b02032"), looks := true }, kinds := [], alts := [], laidByText := true, laidKinds := [.data, .data, .data], laidTests := true, laidLooks := .later }
def GeneralMoreUptoCardSaid : Prop := Claim7.holds Tryd.pinned (.plain (OpenSpec.upto generalMoreSpec)) generalMoreUptoCard

/-- THE SECOND FORM's CARD OF 'sextantlaw12.GeneralEither'. -/
def generalEitherUptoCard : Claim7 := { stood := { row := generalEitherUptoRow, standIns := [], harness := (true, "dcee1cbd1bf61e70faf61001c2ac7be00e0b78015af8cb1bfd37f90c15b02032"), looks := true }, kinds := [], alts := [], laidByText := true, laidKinds := [.data, .data, .data], laidTests := true, laidLooks := .later }
def GeneralEitherUptoCardSaid : Prop := Claim7.holds Tryd.pinned (.plain (OpenSpec.upto generalEitherSpec)) generalEitherUptoCard
end Rows
end Go.Proofs.YtelanndleinabaaDoor
