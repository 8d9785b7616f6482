/-
  No cell of these rows narrows 'for every input' (looked for: loops, veiled, ifaces, maps, wideKeys, modest, calm, conditions, laid).
  DERIVED. THE GIVEN ROWS OF THIS SEAT. 4 by the template 'for every input the law returns true; each argument reads behind the call as it read before'; 0 by the template 'total and deterministic' (their statements: YtcedenoicmpjmaaTotals.lean).
  GIVEN WITH THE SEED: the statements are not yours to turn. If you find one false, say at which input.
  Laid BY PROGRAM, IN A SANDBOX (cutbox-rows.mjs): the forced cells as the released guide's own fill.sh prints them over the translation a90ba004e49c4c3d… (all of the seat's roots in one cut). By AI agents, Wed Nov 11 2026. No macro, syntax, notation, axiom, sorry.
-/
import Derived.Test.YtcedenoicmpjmaaChecked
import GoSem.Claim
import GoSem.ClaimJoined
import GoSem.ClaimMapViews
import Derived.JoinedTies
import Derived.KernelRfl
namespace Go.Proofs.Ytcedenoicmpjmaa
/- THE CELL 'sum', in the pinned program and in every row, IS THE sha256 OF THE DUMP (.gsa) THAT YtcedenoicmpjmaaProg.lean LOADS. Nothing in Lean hashes anything: it is a label: what it is worth is what the hold of that sum in a sandbox is worth. -/
noncomputable def Try.pinned : Pinned := { name := "ytcedenoicmpjmaa", sum := "a90ba004e49c4c3d9b88a23739e7c69c3ee4bd4082f2c3a47ac64ef1783ec8de", checked := Try.checked }
namespace Rows
def none {H : Type} : Left H := { results := [], args := [] }

/-- 'sextantlaw15.NetGraphs': WHATEVER THE INPUT: true; the input reads as it did. -/
def netGraphsSpec : ChangeSpec := { name := "netGraphs", fn := fun _ => fun
  | [d1, d2, d3] => { results := [.lit (.bool true)], args := [d1, d2, d3] }
  | _ => none }
def netGraphsRow : OpenClaim := { program := "ytcedenoicmpjmaa", sum := "a90ba004e49c4c3d9b88a23739e7c69c3ee4bd4082f2c3a47ac64ef1783ec8de", func := "sextant/sextantlaw15.NetGraphs", spec := "netGraphs", unfollowed := true, recurses := true, apart := false }
def NetGraphsSaid : Prop := netGraphsRow.holds Try.pinned (OpenSpec.ofChange netGraphsSpec)

/-- ITS FALSE NEIGHBOUR: 'it returns false'. Refute it at one input. -/
def netGraphsWrong : ChangeSpec := { name := "netGraphs", fn := fun _ => fun
  | [d1, d2, d3] => { results := [.lit (.bool false)], args := [d1, d2, d3] }
  | _ => none }
def NetGraphsWrongFalsely : Prop := netGraphsRow.holds Try.pinned (OpenSpec.ofChange netGraphsWrong)

/-- 'sextantlaw15.NetAgain': WHATEVER THE INPUT: true; the input reads as it did. -/
def netAgainSpec : ChangeSpec := { name := "netAgain", fn := fun _ => fun
  | [d] => { results := [.lit (.bool true)], args := [d] }
  | _ => none }
def netAgainRow : OpenClaim := { program := "ytcedenoicmpjmaa", sum := "a90ba004e49c4c3d9b88a23739e7c69c3ee4bd4082f2c3a47ac64ef1783ec8de", func := "sextant/sextantlaw15.NetAgain", spec := "netAgain", unfollowed := true, recurses := true, apart := false }
def NetAgainSaid : Prop := netAgainRow.holds Try.pinned (OpenSpec.ofChange netAgainSpec)

/-- ITS FALSE NEIGHBOUR: 'it returns false'. Refute it at one input. -/
def netAgainWrong : ChangeSpec := { name := "netAgain", fn := fun _ => fun
  | [d] => { results := [.lit (.bool false)], args := [d] }
  | _ => none }
def NetAgainWrongFalsely : Prop := netAgainRow.holds Try.pinned (OpenSpec.ofChange netAgainWrong)

/-- 'sextantlaw15.NetTurned': WHATEVER THE INPUT: true; the input reads as it did. -/
def netTurnedSpec : ChangeSpec := { name := "netTurned", fn := fun _ => fun
  | [d] => { results := [.lit (.bool true)], args := [d] }
  | _ => none }
def netTurnedRow : OpenClaim := { program := "ytcedenoicmpjmaa", sum := "a90ba004e49c4c3d9b88a23739e7c69c3ee4bd4082f2c3a47ac64ef1783ec8de", func := "sextant/sextantlaw15.NetTurned", spec := "netTurned", unfollowed := true, recurses := true, apart := false }
def NetTurnedSaid : Prop := netTurnedRow.holds Try.pinned (OpenSpec.ofChange netTurnedSpec)

/-- ITS FALSE NEIGHBOUR: 'it returns false'. Refute it at one input. -/
def netTurnedWrong : ChangeSpec := { name := "netTurned", fn := fun _ => fun
  | [d] => { results := [.lit (.bool false)], args := [d] }
  | _ => none }
def NetTurnedWrongFalsely : Prop := netTurnedRow.holds Try.pinned (OpenSpec.ofChange netTurnedWrong)

/-- 'sextantlaw15.NetExplores': WHATEVER THE INPUT: true; the input reads as it did. -/
def netExploresSpec : ChangeSpec := { name := "netExplores", fn := fun _ => fun
  | [d1, d2, d3] => { results := [.lit (.bool true)], args := [d1, d2, d3] }
  | _ => none }
def netExploresRow : OpenClaim := { program := "ytcedenoicmpjmaa", sum := "a90ba004e49c4c3d9b88a23739e7c69c3ee4bd4082f2c3a47ac64ef1783ec8de", func := "sextant/sextantlaw15.NetExplores", spec := "netExplores", unfollowed := true, recurses := true, apart := false }
def NetExploresSaid : Prop := netExploresRow.holds Try.pinned (OpenSpec.ofChange netExploresSpec)

/-- ITS FALSE NEIGHBOUR: 'it returns false'. Refute it at one input. -/
def netExploresWrong : ChangeSpec := { name := "netExplores", fn := fun _ => fun
  | [d1, d2, d3] => { results := [.lit (.bool false)], args := [d1, d2, d3] }
  | _ => none }
def NetExploresWrongFalsely : Prop := netExploresRow.holds Try.pinned (OpenSpec.ofChange netExploresWrong)

/- THE SECOND FORM. 'bulk': how many values and letters a reading holds, each counted each time it is reached (what is shared counts as often as it is met; a slice's spare places count too). A statement '..UptoSaid' is the law's where the arguments, and the package variables that the reading takes, are together of bulk at most 1048576: NARROWER than '..Said'. Prove '..Said' where nothing that the law and all that it calls make is longer than what came in: it says more and counts as full. Else prove '..UptoSaid'. A law counts once. -/
mutual
def uptoBulk {H : Type} : DataW H → Nat
  | .lit (.string bytes) => bytes.length + 1
  | .lit _ => 1
  | .nil => 1
  | .ptr d => uptoBulk d + 1
  | .slice elems spare => uptoBulkAll elems + uptoBulkAll spare + 1
  | .agg parts => uptoBulkAll parts + 1
  | .iface _ d => uptoBulk d + 1
  | .map entries => uptoBulkEntries entries + 1
  | .held _ => 1
def uptoBulkAll {H : Type} : List (DataW H) → Nat
  | [] => 0
  | d :: r => uptoBulk d + uptoBulkAll r
def uptoBulkEntries {H : Type} : List (Lit × DataW H) → Nat
  | [] => 0
  | x :: r => uptoBulkEntry x + uptoBulkEntries r
def uptoBulkEntry {H : Type} : Lit × DataW H → Nat
  | (.string bytes, d) => bytes.length + uptoBulk d + 1
  | (_, d) => uptoBulk d + 1
 end
def uptoSmall : (H : Type) → List (DataW H) → Bool := fun _ ds => decide (uptoBulkAll ds ≤ 1048576)
def OpenSpec.upto (s : _root_.Go.ChangeSpec) : _root_.Go.OpenSpec := { _root_.Go.OpenSpec.ofChange s with cond := some uptoSmall }

/-- 'sextantlaw15.NetGraphs', WHERE WHAT IT READS IS OF BULK AT MOST 1048576: true; the input reads as it did. -/
def netGraphsUptoRow : OpenClaim := { program := "ytcedenoicmpjmaa", sum := "a90ba004e49c4c3d9b88a23739e7c69c3ee4bd4082f2c3a47ac64ef1783ec8de", func := "sextant/sextantlaw15.NetGraphs", spec := "netGraphs", unfollowed := true, recurses := true, apart := false, narrowed := true }
def NetGraphsUptoSaid : Prop := netGraphsUptoRow.holds Try.pinned (OpenSpec.upto netGraphsSpec)

/-- 'sextantlaw15.NetAgain', WHERE WHAT IT READS IS OF BULK AT MOST 1048576: true; the input reads as it did. -/
def netAgainUptoRow : OpenClaim := { program := "ytcedenoicmpjmaa", sum := "a90ba004e49c4c3d9b88a23739e7c69c3ee4bd4082f2c3a47ac64ef1783ec8de", func := "sextant/sextantlaw15.NetAgain", spec := "netAgain", unfollowed := true, recurses := true, apart := false, narrowed := true }
def NetAgainUptoSaid : Prop := netAgainUptoRow.holds Try.pinned (OpenSpec.upto netAgainSpec)

/-- 'sextantlaw15.NetTurned', WHERE WHAT IT READS IS OF BULK AT MOST 1048576: true; the input reads as it did. -/
def netTurnedUptoRow : OpenClaim := { program := "ytcedenoicmpjmaa", sum := "a90ba004e49c4c3d9b88a23739e7c69c3ee4bd4082f2c3a47ac64ef1783ec8de", func := "sextant/sextantlaw15.NetTurned", spec := "netTurned", unfollowed := true, recurses := true, apart := false, narrowed := true }
def NetTurnedUptoSaid : Prop := netTurnedUptoRow.holds Try.pinned (OpenSpec.upto netTurnedSpec)

/-- 'sextantlaw15.NetExplores', WHERE WHAT IT READS IS OF BULK AT MOST 1048576: true; the input reads as it did. -/
def netExploresUptoRow : OpenClaim := { program := "ytcedenoicmpjmaa", sum := "a90ba004e49c4c3d9b88a23739e7c69c3ee4bd4082f2c3a47ac64ef1783ec8de", func := "sextant/sextantlaw15.NetExplores", spec := "netExplores", unfollowed := true, recurses := true, apart := false, narrowed := true }
def NetExploresUptoSaid : Prop := netExploresUptoRow.holds Try.pinned (OpenSpec.upto netExploresSpec)

end Rows
end Go.Proofs.Ytcedenoicmpjmaa
