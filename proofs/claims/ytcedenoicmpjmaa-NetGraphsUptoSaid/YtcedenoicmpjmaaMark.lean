/- A function that is left with many marks of range-over-func loops among its deferred calls. -/
import Derived.Test.YtcedenoicmpjmaaMap
namespace Go.Proofs.Ytcedenoicmpjmaa
open Go.RowKit
set_option linter.unusedVariables false
set_option linter.unusedSimpArgs false

def mark (D : Nat) : Deferred := { target := .collected D, args := #[] }
theorem leaves_marks {F : Fence} {n : Nat} {P : Program} {fn : Func} {tmps : Array Value} {R : Ending → World → Prop} {u : FrameMode} (hu : u ≠ .run) : ∀ (ds : List Nat) (w : World), ds.Nodup → (∀ D ∈ ds, w.heap[D]? = some (.deferred (some []))) →
    (∀ w', Fr (fun k => k ∈ ds) w w' → LeavesInM F n P fn tmps R [] u w') → LeavesInM F n P fn tmps R (ds.map mark) u w
  | [], w, _, _, h => h w (Fr.refl _ _)
  | D :: ds, w, hd, hm, h => by
    have hD := hm D (by simp)
    have hd2 := List.nodup_cons.1 hd
    refine ⟨hu, .inl ⟨D, _, rfl, run_takeDeferred hD, leaves_marks hu ds _ hd2.2 (fun E hE => ?_) fun w' hf => ?_⟩⟩
    · exact (World.putObj_heap_other (by rintro rfl; exact hd2.1 hE)).trans (hm E (by simp [hE]))
    · refine h w' (Fr.trans (F := fun k => k ∈ D :: ds) ((Fr.refl _ w).grown (grownBy_putObj' w D _) fun k hk _ => ?_) hf fun k _ hk => by simp [hk])
      injection hk with hk
      simp [hk]
end Go.Proofs.Ytcedenoicmpjmaa
