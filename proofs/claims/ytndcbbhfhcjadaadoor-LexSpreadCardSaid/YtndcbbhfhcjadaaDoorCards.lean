/-
  DERIVED. GIVEN WITH THE SEED: THE CARDS: each row of YtndcbbhfhcjadaaDoorRows.lean that lists a variable, with what it lists TIED to the program's text (the seventh form; the later family's looks); each row that meets fmt, with fmt's text TOLD by the authors' own Lean function (tested against real Go, not proved from fmt's source: count such statements apart). THE CARD IS WHAT COUNTS. Prove the row's statement (the work); the ties are given (YtndcbbhfhcjadaaDoorTie.lean); close each card by the builder's one call (the guide's Derived/Test/ToyasCard.lean, 'card_holds'). Laid BY PROGRAM, IN A SANDBOX (cutbox-door.mjs). By AI agents, Wed Nov 11 2026. No macro, syntax, notation, axiom, sorry.
-/
import Derived.Test.YtndcbbhfhcjadaaDoorRows
import GoSem.ClaimSeven
namespace Go.Proofs.YtndcbbhfhcjadaaDoor
namespace Rows

/-- THE TIED CARD OF 'sextantlaw02.LexTokens'. -/
def lexTokensCard : Claim7 := { stood := { row := lexTokensRow, standIns := [], harness := (true, "e92e72538e81eb5f4f1a78c7a12d8218d08a35e72fbcc5f740b781e23893c5c1"), looks := false }, kinds := [], alts := [], laidByText := true, laidKinds := [.listed, .data], laidTests := true, laidLooks := .later }
def LexTokensCardSaid : Prop := Claim7.holds Tryd.pinned (.plain (OpenSpec.ofChange lexTokensSpec)) lexTokensCard

/-- THE TIED CARD OF 'sextantlaw02.LexReserved'. -/
def lexReservedCard : Claim7 := { stood := { row := lexReservedRow, standIns := [], harness := (true, "e92e72538e81eb5f4f1a78c7a12d8218d08a35e72fbcc5f740b781e23893c5c1"), looks := false }, kinds := [], alts := [], laidByText := true, laidKinds := [.listed, .data], laidTests := true, laidLooks := .later }
def LexReservedCardSaid : Prop := Claim7.holds Tryd.pinned (.plain (OpenSpec.ofChange lexReservedSpec)) lexReservedCard

/-- THE TIED CARD OF 'sextantlaw02.LexJoins'. -/
def lexJoinsCard : Claim7 := { stood := { row := lexJoinsRow, standIns := [], harness := (true, "e92e72538e81eb5f4f1a78c7a12d8218d08a35e72fbcc5f740b781e23893c5c1"), looks := false }, kinds := [], alts := [], laidByText := true, laidKinds := [.listed, .data], laidTests := true, laidLooks := .later }
def LexJoinsCardSaid : Prop := Claim7.holds Tryd.pinned (.plain (OpenSpec.ofChange lexJoinsSpec)) lexJoinsCard

/-- THE TIED CARD OF 'sextantlaw02.LexSpread'. -/
def lexSpreadCard : Claim7 := { stood := { row := lexSpreadRow, standIns := [], harness := (true, "e92e72538e81eb5f4f1a78c7a12d8218d08a35e72fbcc5f740b781e23893c5c1"), looks := false }, kinds := [], alts := [], laidByText := true, laidKinds := [.listed, .data], laidTests := true, laidLooks := .later }
def LexSpreadCardSaid : Prop := Claim7.holds Tryd.pinned (.plain (OpenSpec.ofChange lexSpreadSpec)) lexSpreadCard

/-- THE TIED CARD OF 'sextantlaw02.LexNumbers'. -/
def lexNumbersCard : Claim7 := { stood := { row := lexNumbersRow, standIns := [], harness := (true, "e92e72538e81eb5f4f1a78c7a12d8218d08a35e72fbcc5f740b781e23893c5c1"), looks := false }, kinds := [], alts := [], laidByText := true, laidKinds := [.listed, .data], laidTests := true, laidLooks := .later }
def LexNumbersCardSaid : Prop := Claim7.holds Tryd.pinned (.plain (OpenSpec.ofChange lexNumbersSpec)) lexNumbersCard

/-- THE TIED CARD OF 'sextantlaw02.LexRemarks'. -/
def lexRemarksCard : Claim7 := { stood := { row := lexRemarksRow, standIns := [], harness := (true, "e92e72538e81eb5f4f1a78c7a12d8218d08a35e72fbcc5f740b781e23893c5c1"), looks := false }, kinds := [], alts := [], laidByText := true, laidKinds := [.listed, .data], laidTests := true, laidLooks := .later }
def LexRemarksCardSaid : Prop := Claim7.holds Tryd.pinned (.plain (OpenSpec.ofChange lexRemarksSpec)) lexRemarksCard

/-- THE SECOND FORM's CARD OF 'sextantlaw02.LexTokens'. -/
def lexTokensUptoCard : Claim7 := { stood := { row := lexTokensUptoRow, standIns := [], harness := (true, "e92e72538e81eb5f4f1a78c7a12d8218d08a35e72fbcc5f740b781e23893c5c1"), looks := false }, kinds := [], alts := [], laidByText := true, laidKinds := [.listed, .data], laidTests := true, laidLooks := .later }
def LexTokensUptoCardSaid : Prop := Claim7.holds Tryd.pinned (.plain (OpenSpec.upto lexTokensSpec)) lexTokensUptoCard

/-- THE SECOND FORM's CARD OF 'sextantlaw02.LexReserved'. -/
def lexReservedUptoCard : Claim7 := { stood := { row := lexReservedUptoRow, standIns := [], harness := (true, "e92e72538e81eb5f4f1a78c7a12d8218d08a35e72fbcc5f740b781e23893c5c1"), looks := false }, kinds := [], alts := [], laidByText := true, laidKinds := [.listed, .data], laidTests := true, laidLooks := .later }
def LexReservedUptoCardSaid : Prop := Claim7.holds Tryd.pinned (.plain (OpenSpec.upto lexReservedSpec)) lexReservedUptoCard

/-- THE SECOND FORM's CARD OF 'sextantlaw02.LexJoins'. -/
def lexJoinsUptoCard : Claim7 := { stood := { row := lexJoinsUptoRow, standIns := [], harness := (true, "e92e72538e81eb5f4f1a78c7a12d8218d08a35e72fbcc5f740b781e23893c5c1"), looks := false }, kinds := [], alts := [], laidByText := true, laidKinds := [.listed, .data], laidTests := true, laidLooks := .later }
def LexJoinsUptoCardSaid : Prop := Claim7.holds Tryd.pinned (.plain (OpenSpec.upto lexJoinsSpec)) lexJoinsUptoCard

/-- THE SECOND FORM's CARD OF 'sextantlaw02.LexSpread'. -/
def lexSpreadUptoCard : Claim7 := { stood := { row := lexSpreadUptoRow, standIns := [], harness := (true, "e92e72538e81eb5f4f1a78c7a12d8218d08a35e72fbcc5f740b781e23893c5c1"), looks := false }, kinds := [], alts := [], laidByText := true, laidKinds := [.listed, .data], laidTests := true, laidLooks := .later }
def LexSpreadUptoCardSaid : Prop := Claim7.holds Tryd.pinned (.plain (OpenSpec.upto lexSpreadSpec)) lexSpreadUptoCard

/-- THE SECOND FORM's CARD OF 'sextantlaw02.LexNumbers'. -/
def lexNumbersUptoCard : Claim7 := { stood := { row := lexNumbersUptoRow, standIns := [], harness := (true, "e92e72538e81eb5f4f1a78c7a12d8218d08a35e72fbcc5f740b781e23893c5c1"), looks := false }, kinds := [], alts := [], laidByText := true, laidKinds := [.listed, .data], laidTests := true, laidLooks := .later }
def LexNumbersUptoCardSaid : Prop := Claim7.holds Tryd.pinned (.plain (OpenSpec.upto lexNumbersSpec)) lexNumbersUptoCard

/-- THE SECOND FORM's CARD OF 'sextantlaw02.LexRemarks'. -/
def lexRemarksUptoCard : Claim7 := { stood := { row := lexRemarksUptoRow, standIns := [], harness := (true, "e92e72538e81eb5f4f1a78c7a12d8218d08a35e72fbcc5f740b781e23893c5c1"), looks := false }, kinds := [], alts := [], laidByText := true, laidKinds := [.listed, .data], laidTests := true, laidLooks := .later }
def LexRemarksUptoCardSaid : Prop := Claim7.holds Tryd.pinned (.plain (OpenSpec.upto lexRemarksSpec)) lexRemarksUptoCard
end Rows
end Go.Proofs.YtndcbbhfhcjadaaDoor
