import Derived.Test.YtndcbbhfhcjadaaDoorSmall
namespace Go.Proofs.YtndcbbhfhcjadaaDoor
open Go.RowKit
set_option maxHeartbeats 4000000 in
set_option maxRecDepth 100000 in
theorem refName (s : ByteArray) (w : World) : Calls Tryd.prog 21 #[.string s] w fun e w' => e = .returned (.bool (isIn names s)) ∧ w' = w := by
  go_enter Tryd.func21, Tryd.ntmps21
  go_wp2 <;> (go_ret; refine ⟨congrArg Ending.returned (congrArg Value.bool ?_), rfl⟩; simp_all [isIn, names])
end Go.Proofs.YtndcbbhfhcjadaaDoor
