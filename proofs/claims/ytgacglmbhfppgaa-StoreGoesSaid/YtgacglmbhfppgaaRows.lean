/-
  No cell of these rows narrows 'for every input' (looked for: loops, veiled, ifaces, maps, wideKeys, modest, calm, conditions, laid).
  DERIVED. THE GIVEN ROWS OF THIS SEAT. 4 by the template 'for every input the law returns true; each argument reads behind the call as it read before'; 0 by the template 'total and deterministic' (their statements: YtgacglmbhfppgaaTotals.lean).
  GIVEN WITH THE SEED: the statements are not yours to turn. If you find one false, say at which input.
  Laid BY PROGRAM, IN A SANDBOX (cutbox-rows.mjs): the forced cells as the released guide's own fill.sh prints them over the translation f63fae4d33626bfe… (all of the seat's roots in one cut). By AI agents, Wed Nov 11 2026. No macro, syntax, notation, axiom, sorry.
-/
import Derived.Test.YtgacglmbhfppgaaChecked
import GoSem.Claim
import GoSem.ClaimJoined
import GoSem.ClaimMapViews
import Derived.JoinedTies
import Derived.KernelRfl
namespace Go.Proofs.Ytgacglmbhfppgaa
/- THE CELL 'sum', in the pinned program and in every row, IS THE sha256 OF THE DUMP (.gsa) THAT YtgacglmbhfppgaaProg.lean LOADS. Nothing in Lean hashes anything: it is a label: what it is worth is what the hold of that sum in a sandbox is worth. -/
noncomputable def Try.pinned : Pinned := { name := "ytgacglmbhfppgaa", sum := "f63fae4d33626bfea21b3c981a155176c12ef327568ce4f77bf60a00384cec6c", checked := Try.checked }
namespace Rows
def none {H : Type} : Left H := { results := [], args := [] }

/-- 'sextantlaw19.StoreMany': WHATEVER THE INPUT: true; the input reads as it did. -/
def storeManySpec : ChangeSpec := { name := "storeMany", fn := fun _ => fun
  | [d1, d2, d3] => { results := [.lit (.bool true)], args := [d1, d2, d3] }
  | _ => none }
def storeManyRow : OpenClaim := { program := "ytgacglmbhfppgaa", sum := "f63fae4d33626bfea21b3c981a155176c12ef327568ce4f77bf60a00384cec6c", func := "sextant/sextantlaw19.StoreMany", spec := "storeMany", apart := false }
def StoreManySaid : Prop := storeManyRow.holds Try.pinned (OpenSpec.ofChange storeManySpec)

/-- ITS FALSE NEIGHBOUR: 'it returns false'. Refute it at one input. -/
def storeManyWrong : ChangeSpec := { name := "storeMany", fn := fun _ => fun
  | [d1, d2, d3] => { results := [.lit (.bool false)], args := [d1, d2, d3] }
  | _ => none }
def StoreManyWrongFalsely : Prop := storeManyRow.holds Try.pinned (OpenSpec.ofChange storeManyWrong)

/-- 'sextantlaw19.StorePlays': WHATEVER THE INPUT: true; the input reads as it did. -/
def storePlaysSpec : ChangeSpec := { name := "storePlays", fn := fun _ => fun
  | [d1, d2, d3] => { results := [.lit (.bool true)], args := [d1, d2, d3] }
  | _ => none }
def storePlaysRow : OpenClaim := { program := "ytgacglmbhfppgaa", sum := "f63fae4d33626bfea21b3c981a155176c12ef327568ce4f77bf60a00384cec6c", func := "sextant/sextantlaw19.StorePlays", spec := "storePlays", unfollowed := true, recurses := true, apart := false }
def StorePlaysSaid : Prop := storePlaysRow.holds Try.pinned (OpenSpec.ofChange storePlaysSpec)

/-- ITS FALSE NEIGHBOUR: 'it returns false'. Refute it at one input. -/
def storePlaysWrong : ChangeSpec := { name := "storePlays", fn := fun _ => fun
  | [d1, d2, d3] => { results := [.lit (.bool false)], args := [d1, d2, d3] }
  | _ => none }
def StorePlaysWrongFalsely : Prop := storePlaysRow.holds Try.pinned (OpenSpec.ofChange storePlaysWrong)

/-- 'sextantlaw19.StoreGoes': WHATEVER THE INPUT: true; the input reads as it did. -/
def storeGoesSpec : ChangeSpec := { name := "storeGoes", fn := fun _ => fun
  | [d1, d2] => { results := [.lit (.bool true)], args := [d1, d2] }
  | _ => none }
def storeGoesRow : OpenClaim := { program := "ytgacglmbhfppgaa", sum := "f63fae4d33626bfea21b3c981a155176c12ef327568ce4f77bf60a00384cec6c", func := "sextant/sextantlaw19.StoreGoes", spec := "storeGoes", unfollowed := true, recurses := true, apart := false }
def StoreGoesSaid : Prop := storeGoesRow.holds Try.pinned (OpenSpec.ofChange storeGoesSpec)

/-- ITS FALSE NEIGHBOUR: 'it returns false'. Refute it at one input. -/
def storeGoesWrong : ChangeSpec := { name := "storeGoes", fn := fun _ => fun
  | [d1, d2] => { results := [.lit (.bool false)], args := [d1, d2] }
  | _ => none }
def StoreGoesWrongFalsely : Prop := storeGoesRow.holds Try.pinned (OpenSpec.ofChange storeGoesWrong)

/-- 'sextantlaw19.StoreNothing': WHATEVER THE INPUT: true; the input reads as it did. -/
def storeNothingSpec : ChangeSpec := { name := "storeNothing", fn := fun _ => fun
  | [d1, d2] => { results := [.lit (.bool true)], args := [d1, d2] }
  | _ => none }
def storeNothingRow : OpenClaim := { program := "ytgacglmbhfppgaa", sum := "f63fae4d33626bfea21b3c981a155176c12ef327568ce4f77bf60a00384cec6c", func := "sextant/sextantlaw19.StoreNothing", spec := "storeNothing", unfollowed := true, recurses := true, apart := false }
def StoreNothingSaid : Prop := storeNothingRow.holds Try.pinned (OpenSpec.ofChange storeNothingSpec)

/-- ITS FALSE NEIGHBOUR: 'it returns false'. Refute it at one input. -/
def storeNothingWrong : ChangeSpec := { name := "storeNothing", fn := fun _ => fun
  | [d1, d2] => { results := [.lit (.bool false)], args := [d1, d2] }
  | _ => none }
def StoreNothingWrongFalsely : Prop := storeNothingRow.holds Try.pinned (OpenSpec.ofChange storeNothingWrong)

/- THE SECOND FORM. 'bulk': how many values and letters a reading holds, each counted each time it is reached (what is shared counts as often as it is met; a slice's spare places count too). A statement '..UptoSaid' is the law's where the arguments, and the package variables that the reading takes, are together of bulk at most 1048576: NARROWER than '..Said'. Prove '..Said' where nothing that the law and all that it calls make is longer than what came in: it says more and counts as full. Else prove '..UptoSaid'. A law counts once. -/
mutual
def uptoBulk {H : Type} : DataW H → Nat
  | .lit (.string bytes) => bytes.length + 1
  | .lit _ => 1
  | .nil => 1
  | .ptr d => uptoBulk d + 1
  | .slice elems spare => uptoBulkAll elems + uptoBulkAll spare + 1
  | .agg parts => uptoBulkAll parts + 1
  | .iface _ d => uptoBulk d + 1
  | .map entries => uptoBulkEntries entries + 1
  | .held _ => 1
def uptoBulkAll {H : Type} : List (DataW H) → Nat
  | [] => 0
  | d :: r => uptoBulk d + uptoBulkAll r
def uptoBulkEntries {H : Type} : List (Lit × DataW H) → Nat
  | [] => 0
  | x :: r => uptoBulkEntry x + uptoBulkEntries r
def uptoBulkEntry {H : Type} : Lit × DataW H → Nat
  | (.string bytes, d) => bytes.length + uptoBulk d + 1
  | (_, d) => uptoBulk d + 1
 end
def uptoSmall : (H : Type) → List (DataW H) → Bool := fun _ ds => decide (uptoBulkAll ds ≤ 1048576)
def OpenSpec.upto (s : _root_.Go.ChangeSpec) : _root_.Go.OpenSpec := { _root_.Go.OpenSpec.ofChange s with cond := some uptoSmall }

/-- 'sextantlaw19.StoreMany', WHERE WHAT IT READS IS OF BULK AT MOST 1048576: true; the input reads as it did. -/
def storeManyUptoRow : OpenClaim := { program := "ytgacglmbhfppgaa", sum := "f63fae4d33626bfea21b3c981a155176c12ef327568ce4f77bf60a00384cec6c", func := "sextant/sextantlaw19.StoreMany", spec := "storeMany", apart := false, narrowed := true }
def StoreManyUptoSaid : Prop := storeManyUptoRow.holds Try.pinned (OpenSpec.upto storeManySpec)

/-- 'sextantlaw19.StorePlays', WHERE WHAT IT READS IS OF BULK AT MOST 1048576: true; the input reads as it did. -/
def storePlaysUptoRow : OpenClaim := { program := "ytgacglmbhfppgaa", sum := "f63fae4d33626bfea21b3c981a155176c12ef327568ce4f77bf60a00384cec6c", func := "sextant/sextantlaw19.StorePlays", spec := "storePlays", unfollowed := true, recurses := true, apart := false, narrowed := true }
def StorePlaysUptoSaid : Prop := storePlaysUptoRow.holds Try.pinned (OpenSpec.upto storePlaysSpec)

/-- 'sextantlaw19.StoreGoes', WHERE WHAT IT READS IS OF BULK AT MOST 1048576: true; the input reads as it did. -/
def storeGoesUptoRow : OpenClaim := { program := "ytgacglmbhfppgaa", sum := "f63fae4d33626bfea21b3c981a155176c12ef327568ce4f77bf60a00384cec6c", func := "sextant/sextantlaw19.StoreGoes", spec := "storeGoes", unfollowed := true, recurses := true, apart := false, narrowed := true }
def StoreGoesUptoSaid : Prop := storeGoesUptoRow.holds Try.pinned (OpenSpec.upto storeGoesSpec)

/-- 'sextantlaw19.StoreNothing', WHERE WHAT IT READS IS OF BULK AT MOST 1048576: true; the input reads as it did. -/
def storeNothingUptoRow : OpenClaim := { program := "ytgacglmbhfppgaa", sum := "f63fae4d33626bfea21b3c981a155176c12ef327568ce4f77bf60a00384cec6c", func := "sextant/sextantlaw19.StoreNothing", spec := "storeNothing", unfollowed := true, recurses := true, apart := false, narrowed := true }
def StoreNothingUptoSaid : Prop := storeNothingUptoRow.holds Try.pinned (OpenSpec.upto storeNothingSpec)

end Rows
end Go.Proofs.Ytgacglmbhfppgaa
