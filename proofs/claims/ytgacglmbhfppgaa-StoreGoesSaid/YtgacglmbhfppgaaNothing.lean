/- The walk of sextantlaw19.StoreNothing: it returns true, whatever the input. -/
import Derived.Test.YtgacglmbhfppgaaNil
namespace Go.Proofs.Ytgacglmbhfppgaa
open Go.RowKit Go.Shelf
attribute [local go_sem] Oper.semAt_some

theorem Holds.kept_row {w w' : World} {g : Nat} {t : TypeId} {cs : List Value} {row : Option Nat} (h : Holds w g t cs) (hg : w.grownBy w' row) (hr : ∀ r, row = some r → ∃ o : Obj, w.heap[r]? = some o ∧ o.isCells = false) : Holds w' g t cs :=
  h.of_eq (hg.block g h.lt fun e => by
    obtain ⟨o, ho, hc⟩ := hr g e.symm
    unfold Holds at h
    rw [h] at ho
    cases ho
    cases hc)
theorem holds_own {β : Type} {g : Nat} {t : TypeId} {cs : List Value} : Own (fun (_ : β) W => Holds W g t cs) := fun _ _ _ _ hs hg hr => hs.kept_row hg hr

theorem fn_not_nil (a : Addr) (w : World) : (binOp .eql 48 (.func (.func 25) #[] #[.pointer (some a)]) .nilFunc).run Try.prog w = .ok (.bool false) w := by kernel_rfl

set_option maxRecDepth 100000 in
set_option maxHeartbeats 1000000 in
theorem nothing_any (s : ByteArray) (m : Int) (w : World) : Calls Try.prog 6 #[.string s, .int .i64 m] w fun e w' => e = .returned (.bool true) ∧ Below w.heap.size w w' := by
  have hfn := fn_not_nil
  refine (callsIn_wide (n := 5)).1 ?_
  refine callsIn_of_wp_marks Try.func6 rfl trivial ?_ rfl
  simp only [Try.ntmps6, List.size_toArray, List.length_cons, List.length_nil, Nat.reduceAdd, Nat.reduceSub, Array.replicate_succ, Array.replicate_zero, List.push_toArray, List.append_toArray, List.nil_append, List.cons_append]
  gi_wp2_with (first | (refine ⟨trivial, ?_⟩; gi_at_call 11; refine (callsIn_wide.2 (put_nil _ _)).mono ?_; rintro e w' ⟨rfl, rfl⟩) | (refine ⟨trivial, ?_⟩; gi_at_call 10; refine (callsIn_wide.2 (find_nil _ _)).mono ?_; rintro e w' ⟨rfl, rfl⟩) | (refine ⟨trivial, ?_⟩; gi_at_call 14; refine (callsIn_wide.2 (get_nil _ _)).mono ?_; rintro e w' ⟨rfl, rfl⟩) | (refine ⟨trivial, ?_⟩; gi_at_call 21; refine (callsIn_wide.2 (all_fn _ _)).mono ?_; rintro e w' ⟨rfl, rfl⟩))
  have c0 : Holds (w.alloc (.cells #[.bool false] 4)) w.heap.size 4 [.bool false] := Holds.new _ _ _
  have c1 : Holds ((w.alloc (.cells #[.bool false] 4)).alloc (.cells #[.pointer none] 24)) (w.heap.size + 1) 24 [.pointer none] := by
    have := Holds.new (w.alloc (.cells #[.bool false] 4)) 24 #[.pointer none]
    rwa [World.size_alloc] at this
  have c2 := c0.alloc (.cells #[.pointer none] 24)
  have hB0 : Below w.heap.size w ((w.alloc (.cells #[.bool false] 4)).alloc (.cells #[.pointer none] 24)) := ((Below.refl _ w).alloc (Nat.le_refl _) _).alloc (by simp) _
  generalize ((w.alloc (.cells #[.bool false] 4)).alloc (.cells #[.pointer none] 24)) = W1 at *
  have hz := c1.lt
  gi_wp2_with fail
  refine wpIn_rangeFunc_ownH rfl (by omega) (gf := 25) (lb := #[.pointer (some ⟨w.heap.size + 1, 0, none⟩)]) rfl trivial (enters_of Try.func25 (by kernel_rfl) rfl)
    (nil_stops 4 (w.heap.size + 1) W1 hz (c1.cell 0)) belowK_t (belowK_b (Nat.zero_le _)) (Below.refl _ _) (fun _ => rfl)
    (fun _ W => Holds W w.heap.size 4 [.bool false] ∧ Below w.heap.size w W) (fun _ _ _ => False)
    (OwnFrom.and (Own.from holds_own _) (ownFrom_below (Nat.le_refl _) (by omega))) (fun _ _ _ _ _ hs _ _ => hs) ⟨c2, hB0⟩ (fun _ _ _ => True) (fun _ _ _ _ _ _ _ _ _ => trivial) ?assign ?body ?done ?stop
  case assign =>
    intro l pre x W K hi hK
    gi_wp2
    exact hK _ _ (KeepsFrom.refl _ _) (Below.refl _ _) hi trivial
  case body =>
    intro l pre x a' W _ _ _ _ h
    omega
  case stop => exact fun D c pre W _ h => h.elim
  case done =>
    rintro D xs W hD _ ⟨hH, hB⟩ hK
    have d0 := hH.cell 0
    have z0 := hH.free 0
    simp at d0
    gi_wp2_with (first | (refine ⟨trivial, ?_⟩; gi_at_call 12; refine (callsIn_wide.2 (len_nil _)).mono ?_; rintro e w' ⟨rfl, rfl⟩) | (refine ⟨trivial, ?_⟩; gi_at_call 13; refine (callsIn_wide.2 (bytes_nil _)).mono ?_; rintro e w' ⟨rfl, rfl⟩))
    refine ⟨trivial, ?_⟩
    refine (callsIn_wide.2 (known_any W)).mono ?_
    rintro e w2 ⟨rfl, hb2⟩
    have hH2 := hH.of_eq (hb2.block _ hH.lt)
    have hK2 := (hb2.block D (Array.getElem?_eq_some_iff.1 hK).1).trans hK
    have hB2 := hB.trans (hb2.mono hB.size)
    have d2 := hH2.cell 0
    have z2 := hH2.free 0
    simp at d2
    clear d0 z0
    gi_wp2
    have hK3 := (KeepsOthers.setCell w2 ⟨w.heap.size, 0, none⟩ (.bool true)).same D _ hK2 rfl
    have hH3 := hH2.put 0 (.bool true)
    have hH4 := hH3.kept_row (grownBy_putObj' _ D (.deferred none)) (fun r e => by cases e; exact ⟨_, hK3, rfl⟩)
    have d4 := hH4.cell 0
    simp at d4
    refine ⟨by simp, .inl ⟨_, _, rfl, run_takeDeferred hK3, ?_⟩⟩
    refine ⟨.bool true, ?_, rfl, (hB2.setCell (p := ⟨w.heap.size, 0, none⟩) (Nat.le_refl _) _).trans (belowK_b (w := w) (Nat.le_refl _) _ D _ _ (by have := hB0.size; omega) hK3 rfl rfl)⟩
    simp [results, Try.f6, go_sem, d4]
end Go.Proofs.Ytgacglmbhfppgaa
