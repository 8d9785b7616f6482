/- A region that draws its order, walked by an invariant of what has been done. -/
import Derived.Test.YtokkjifmgmngjaaCalm
namespace Go.Proofs.Ytokkjifmgmngjaa
open Go
set_option linter.unusedVariables false
set_option linter.unusedSectionVars false

section
variable {P : Program} {ops : Array Oper} {Q : Exit → Act → World → Prop} {Inv : Array Bool → Act → World → Prop}
theorem wpAny_inv (ho : ordered ops = true) (hg : ∀ (i : Nat) (o : Oper), ops[i]? = some o → o.guard = none)
    (hstep : ∀ (L : Array Bool) (i : Nat) (o : Oper) (a : Act) (w : World) (K : Act → World → Prop), L.size = ops.size → ops[i]? = some o → L.getD i true = false → (∀ e ∈ o.after, Region.binds .any e = true → L.getD e.on false = true) → Inv L a w → (∀ a' w', Inv (L.setIfInBounds i true) a' w' → K a' w') → o.wp P a w K Q)
    (hend : ∀ (L : Array Bool) (a : Act) (w : World), L.size = ops.size → (∀ j, j < ops.size → L.getD j false = true) → Inv L a w → Q .normal a w) :
    ∀ (fuel : Nat) (L : Array Bool) (a : Act) (w : World), L.size = ops.size → L.toList.countP (· == false) ≤ fuel → Inv L a w → wpAny P .any ops Q fuel L a w := by
  have key : ∀ (L : Array Bool) (a : Act) (w : World), L.size = ops.size → Inv L a w → Region.ready .any ops L = [] → Q .normal a w :=
    fun L a w hs hI hr => hend L a w hs (ready_nil hs ho hr) hI
  intro fuel
  induction fuel with
  | zero =>
    intro L a w hs hc hI
    have hr : Region.ready .any ops L = [] := by
      cases h : Region.ready .any ops L with
      | nil => rfl
      | cons j l =>
        exfalso
        obtain ⟨h0, o, hoj, _⟩ := mem_ready.1 (show j ∈ Region.ready .any ops L by rw [h]; simp)
        have hlt : j < L.size := by rw [hs]; exact (Array.getElem?_eq_some_iff.1 hoj).1
        simp [hlt] at h0
        have := List.countP_pos_iff (p := (· == false)) (l := L.toList) |>.2 ⟨false, by rw [← h0]; simp, rfl⟩
        omega
    exact ⟨hr, key L a w hs hI hr⟩
  | succ fuel ih =>
    intro L a w hs hc hI
    refine ⟨fun hr => key L a w hs hI hr, fun i hi => ?_⟩
    obtain ⟨h0, o, hoi, hall⟩ := mem_ready.1 hi
    have hlt : i < L.size := by rw [hs]; exact (Array.getElem?_eq_some_iff.1 hoi).1
    have hgo := hg i o hoi
    unfold wpOp
    rw [hoi]
    simp only
    rw [if_pos (by unfold Region.wanted; rw [hgo])]
    refine .inl (hstep L i o a w _ hs hoi (by simpa [hlt] using h0) (fun e he hb => ?_) hI fun a' w' hI' => ih _ a' w' (by simpa using hs) ?_ hI')
    · exact hall e he hb
    · have hl' : i < L.toList.length := by simp; omega
      have hl0 : L.toList[i] = false := by
        simp [hlt] at h0
        simpa using h0
      rw [Array.toList_setIfInBounds, List.countP_set hl']
      have := List.countP_pos_iff (p := (· == false)) (l := L.toList) |>.2 ⟨false, by rw [← hl0]; exact List.getElem_mem hl', rfl⟩
      rw [hl0]
      show _ - (if (false == false) = true then 1 else 0) + (if (true == false) = true then 1 else 0) ≤ fuel
      rw [if_pos (show (false == false) = true from rfl), if_neg (show ¬ (true == false) = true by decide)]
      omega
theorem wp_region_inv {id : Nat} {a : Act} {w : World} (Inv : Array Bool → Act → World → Prop) (hm : P.follows .mixedOrders = true) (ho : ordered ops = true) (hg : ∀ (i : Nat) (o : Oper), ops[i]? = some o → o.guard = none) (h0 : Inv (Array.replicate ops.size false) a w.drew)
    (hstep : ∀ (L : Array Bool) (i : Nat) (o : Oper) (a : Act) (w : World) (K : Act → World → Prop), L.size = ops.size → ops[i]? = some o → L.getD i true = false → (∀ e ∈ o.after, Region.binds .any e = true → L.getD e.on false = true) → Inv L a w → (∀ a' w', Inv (L.setIfInBounds i true) a' w' → K a' w') → o.wp P a w K Q)
    (hend : ∀ (L : Array Bool) (a : Act) (w : World), L.size = ops.size → (∀ j, j < ops.size → L.getD j false = true) → Inv L a w → Q .normal a w) : (Code.region id ops true).wp P Q a w :=
  wp_region_any hm (wpAny_inv ho hg hstep hend _ _ a _ (by simp) (Nat.le_trans List.countP_le_length (by simp)) h0)
end
end Go.Proofs.Ytokkjifmgmngjaa
