/- The walk of net.CheckThreads at no processes. -/
import Derived.Test.YtcedenoicmpjmaaNode
namespace Go.Proofs.Ytcedenoicmpjmaa
open Go.RowKit
set_option linter.unusedVariables false
set_option linter.unusedSimpArgs false

set_option maxHeartbeats 1000000 in
set_option maxRecDepth 100000 in
theorem emptyFn (w : World) : Calls Try.prog 29 #[.agg #[.slice none 0 0, .slice none 0 0, .slice none 0 0]] w (fun e w' => e = .returned (.int .i64 0) ∧ Below w.heap.size w w') := by
  go_enter Try.func29, Try.ntmps29
  go_wp2
  refine wp_loop_once ?_
  go_wp2
  refine wp_loop_once ?_
  go_wp2
  refine wp_loop_once ?_
  go_wp2
  go_ret
  exact ⟨rfl, (Below.refl _ _).alloc (Nat.le_refl _) _⟩
end Go.Proofs.Ytcedenoicmpjmaa
