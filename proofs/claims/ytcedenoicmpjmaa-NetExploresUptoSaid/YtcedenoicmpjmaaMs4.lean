/- Emp, Two, joined. -/
import Derived.Test.YtcedenoicmpjmaaNode
section
/- The walk of net.CheckThreads at no processes. -/
namespace Go.Proofs.Ytcedenoicmpjmaa
open Go.RowKit
set_option linter.unusedVariables false
set_option linter.unusedSimpArgs false

set_option maxHeartbeats 1000000 in
set_option maxRecDepth 100000 in
theorem emptyFn (w : World) : Calls Try.prog 29 #[.agg #[.slice none 0 0, .slice none 0 0, .slice none 0 0]] w (fun e w' => e = .returned (.int .i64 0) ∧ Below w.heap.size w w') := by
  go_enter Try.func29, Try.ntmps29
  go_wp2
  refine wp_loop_once ?_
  go_wp2
  refine wp_loop_once ?_
  go_wp2
  refine wp_loop_once ?_
  go_wp2
  go_ret
  exact ⟨rfl, (Below.refl _ _).alloc (Nat.le_refl _) _⟩
end Go.Proofs.Ytcedenoicmpjmaa
end
section
/- The walk of the statements' two: a graph laid anew. -/
namespace Go.Proofs.Ytcedenoicmpjmaa
open Go.RowKit
set_option linter.unusedVariables false
set_option linter.unusedSimpArgs false

def twoN : PNet := [⟨[⟨1, 1, 0, [], [], 0⟩, ⟨0, 0, 1, [], [], 0⟩], 5, false, false, false⟩, ⟨[], 0, true, false, false⟩]
theorem sz_Net : (Try.prog.info? 24).map (·.size) = some 1 := by kernel_rfl
def TwoPost (w : World) (e : Ending) (w' : World) : Prop := Below w.heap.size w w' ∧ ∃ v, e = .returned (.agg #[v]) ∧ NetV (From w.heap.size) w' v twoN
set_option maxHeartbeats 1000000 in
theorem twoFn (w : World) : Calls Try.prog 28 #[] w (TwoPost w) := by
  have hB : Below w.heap.size w (((w.alloc (.cells #[.slice (some ⟨w.heap.size + 1 + 1, 0, none⟩) 2 2] 24)).alloc (.cells #[.int .i64 1, .int .i64 1, .int .i64 0, .slice none 0 0, .slice none 0 0, .int .u64 0, .int .i64 0, .int .i64 0, .int .i64 1, .slice none 0 0, .slice none 0 0, .int .u64 0] 55)).alloc (.cells #[.slice (some ⟨w.heap.size + 1, 0, none⟩) 2 2, .int .u64 5, .bool false, .bool false, .bool false, .slice none 0 0, .int .u64 0, .bool true, .bool false, .bool false] 53)) := (((Below.refl _ _).alloc (Nat.le_refl _) _).alloc (by simp) _).alloc (by simp; omega) _
  have h0 : Holds (((w.alloc (.cells #[.slice (some ⟨w.heap.size + 1 + 1, 0, none⟩) 2 2] 24)).alloc (.cells #[.int .i64 1, .int .i64 1, .int .i64 0, .slice none 0 0, .slice none 0 0, .int .u64 0, .int .i64 0, .int .i64 0, .int .i64 1, .slice none 0 0, .slice none 0 0, .int .u64 0] 55)).alloc (.cells #[.slice (some ⟨w.heap.size + 1, 0, none⟩) 2 2, .int .u64 5, .bool false, .bool false, .bool false, .slice none 0 0, .int .u64 0, .bool true, .bool false, .bool false] 53)) w.heap.size 24 [.slice (some ⟨w.heap.size + 1 + 1, 0, none⟩) 2 2] := ((Holds.new w 24 #[.slice (some ⟨w.heap.size + 1 + 1, 0, none⟩) 2 2]).alloc _).alloc _
  have h1 : Holds (((w.alloc (.cells #[.slice (some ⟨w.heap.size + 1 + 1, 0, none⟩) 2 2] 24)).alloc (.cells #[.int .i64 1, .int .i64 1, .int .i64 0, .slice none 0 0, .slice none 0 0, .int .u64 0, .int .i64 0, .int .i64 0, .int .i64 1, .slice none 0 0, .slice none 0 0, .int .u64 0] 55)).alloc (.cells #[.slice (some ⟨w.heap.size + 1, 0, none⟩) 2 2, .int .u64 5, .bool false, .bool false, .bool false, .slice none 0 0, .int .u64 0, .bool true, .bool false, .bool false] 53)) (w.heap.size + 1) 55 [.int .i64 1, .int .i64 1, .int .i64 0, .slice none 0 0, .slice none 0 0, .int .u64 0, .int .i64 0, .int .i64 0, .int .i64 1, .slice none 0 0, .slice none 0 0, .int .u64 0] := by
    have h := Holds.new (w.alloc (.cells #[.slice (some ⟨w.heap.size + 1 + 1, 0, none⟩) 2 2] 24)) 55 #[.int .i64 1, .int .i64 1, .int .i64 0, .slice none 0 0, .slice none 0 0, .int .u64 0, .int .i64 0, .int .i64 0, .int .i64 1, .slice none 0 0, .slice none 0 0, .int .u64 0]
    rw [show (w.alloc (.cells #[.slice (some ⟨w.heap.size + 1 + 1, 0, none⟩) 2 2] 24)).heap.size = w.heap.size + 1 by simp] at h
    exact h.alloc _
  have h2 : Holds (((w.alloc (.cells #[.slice (some ⟨w.heap.size + 1 + 1, 0, none⟩) 2 2] 24)).alloc (.cells #[.int .i64 1, .int .i64 1, .int .i64 0, .slice none 0 0, .slice none 0 0, .int .u64 0, .int .i64 0, .int .i64 0, .int .i64 1, .slice none 0 0, .slice none 0 0, .int .u64 0] 55)).alloc (.cells #[.slice (some ⟨w.heap.size + 1, 0, none⟩) 2 2, .int .u64 5, .bool false, .bool false, .bool false, .slice none 0 0, .int .u64 0, .bool true, .bool false, .bool false] 53)) (w.heap.size + 1 + 1) 53 [.slice (some ⟨w.heap.size + 1, 0, none⟩) 2 2, .int .u64 5, .bool false, .bool false, .bool false, .slice none 0 0, .int .u64 0, .bool true, .bool false, .bool false] := by
    have h := Holds.new ((w.alloc (.cells #[.slice (some ⟨w.heap.size + 1 + 1, 0, none⟩) 2 2] 24)).alloc (.cells #[.int .i64 1, .int .i64 1, .int .i64 0, .slice none 0 0, .slice none 0 0, .int .u64 0, .int .i64 0, .int .i64 0, .int .i64 1, .slice none 0 0, .slice none 0 0, .int .u64 0] 55)) 53 #[.slice (some ⟨w.heap.size + 1, 0, none⟩) 2 2, .int .u64 5, .bool false, .bool false, .bool false, .slice none 0 0, .int .u64 0, .bool true, .bool false, .bool false]
    rw [show ((w.alloc (.cells #[.slice (some ⟨w.heap.size + 1 + 1, 0, none⟩) 2 2] 24)).alloc (.cells #[.int .i64 1, .int .i64 1, .int .i64 0, .slice none 0 0, .slice none 0 0, .int .u64 0, .int .i64 0, .int .i64 0, .int .i64 1, .slice none 0 0, .slice none 0 0, .int .u64 0] 55)).heap.size = w.heap.size + 1 + 1 by simp] at h
    exact h
  have hV : NetV (From w.heap.size) (((w.alloc (.cells #[.slice (some ⟨w.heap.size + 1 + 1, 0, none⟩) 2 2] 24)).alloc (.cells #[.int .i64 1, .int .i64 1, .int .i64 0, .slice none 0 0, .slice none 0 0, .int .u64 0, .int .i64 0, .int .i64 0, .int .i64 1, .slice none 0 0, .slice none 0 0, .int .u64 0] 55)).alloc (.cells #[.slice (some ⟨w.heap.size + 1, 0, none⟩) 2 2, .int .u64 5, .bool false, .bool false, .bool false, .slice none 0 0, .int .u64 0, .bool true, .bool false, .bool false] 53)) (.slice (some ⟨w.heap.size + 1 + 1, 0, none⟩) 2 2) twoN := by
    refine ⟨_, RowL.of_holds (n := 2) h2 (by show _ ≤ _; omega) (by omega) rfl, ?_⟩
    refine ⟨_, _, (rfl : ([.slice (some ⟨w.heap.size + 1, 0, none⟩) 2 2, .int .u64 5, .bool false, .bool false, .bool false, .slice none 0 0, .int .u64 0, .bool true, .bool false, .bool false] : List Value) = [.slice (some ⟨w.heap.size + 1, 0, none⟩) 2 2, .int .u64 5, .bool false, .bool false, .bool false] ++ [.slice none 0 0, .int .u64 0, .bool true, .bool false, .bool false]), ⟨_, rfl, _, RowL.of_holds (n := 2) h1 (by show _ ≤ _; omega) (by omega) rfl, ?_⟩, ?_⟩
    · refine ⟨_, _, (rfl : ([.int .i64 1, .int .i64 1, .int .i64 0, .slice none 0 0, .slice none 0 0, .int .u64 0, .int .i64 0, .int .i64 0, .int .i64 1, .slice none 0 0, .slice none 0 0, .int .u64 0] : List Value) = [.int .i64 1, .int .i64 1, .int .i64 0, .slice none 0 0, .slice none 0 0, .int .u64 0] ++ [.int .i64 0, .int .i64 0, .int .i64 1, .slice none 0 0, .slice none 0 0, .int .u64 0]), ⟨_, _, rfl, RowL.nil _ _ _, RowL.nil _ _ _⟩, ?_⟩
      exact ⟨_, [], (List.append_nil _).symm, ⟨_, _, rfl, RowL.nil _ _ _, RowL.nil _ _ _⟩, rfl⟩
    · exact ⟨_, [], (List.append_nil _).symm, ⟨_, rfl, [], RowL.nil _ _ _, rfl⟩, rfl⟩
  have HF : Hid (TwoPost w (.returned (.agg #[.slice (some ⟨w.heap.size + 1 + 1, 0, none⟩) 2 2])) (((w.alloc (.cells #[.slice (some ⟨w.heap.size + 1 + 1, 0, none⟩) 2 2] 24)).alloc (.cells #[.int .i64 1, .int .i64 1, .int .i64 0, .slice none 0 0, .slice none 0 0, .int .u64 0, .int .i64 0, .int .i64 0, .int .i64 1, .slice none 0 0, .slice none 0 0, .int .u64 0] 55)).alloc (.cells #[.slice (some ⟨w.heap.size + 1, 0, none⟩) 2 2, .int .u64 5, .bool false, .bool false, .bool false, .slice none 0 0, .int .u64 0, .bool true, .bool false, .bool false] 53))) := ⟨hB, _, rfl, hV⟩
  have H0 := Lib.hid h0
  clear hB h0 h1 h2 hV
  go_enter Try.func28, Try.ntmps28
  go_wp2
  refine bodyPost_ret (outBox Try.results28 H0.out rfl _ Try.underlying24 rfl sz_Net) rfl ?_
  exact HF.out
end Go.Proofs.Ytcedenoicmpjmaa
end
