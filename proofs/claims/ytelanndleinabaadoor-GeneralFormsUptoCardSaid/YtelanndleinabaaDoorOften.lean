/- The walk of often. -/
import Derived.Test.YtelanndleinabaaDoorAChk
namespace Go.Proofs.YtelanndleinabaaDoor
open Go.RowKit
set_option linter.unusedVariables false
def oftenA : Alt := ⟨[[1]], [(true, [⟨1, 0, []⟩, ⟨0, 0, [0]⟩]), (false, [⟨1, 0, [1]⟩, ⟨0, 0, [0, 1]⟩])]⟩
theorem rowI_one {w : World} {m : Nat} {xs : List Int} (h : Holds w m 3 (ints xs)) (hb : ∀ x ∈ xs, -9223372036854775808 ≤ x ∧ x ≤ 9223372036854775807) (hl : xs.length ≤ 100) : RowI w.heap.size w (.slice (some ⟨m, 0, none⟩) xs.length xs.length) xs :=
  ⟨⟨some ⟨m, 0, none⟩, xs.length, rfl, Nat.le_refl _, by unfold maxLen; omega, by simp [ints], (fun h => by cases h), fun _ => ⟨m, 0, rfl, h.lt, fun j hj => by rw [Nat.zero_add]; exact h.cell j⟩⟩, hb⟩
theorem rowP_of {w : World} {m : Nat} {ps : List AP} (h : Holds w m 89 (aps ps)) (hl : ps.length ≤ 100) : RowP w.heap.size w (.slice (some ⟨m, 0, none⟩) ps.length ps.length) ps :=
  ⟨some ⟨m, 0, none⟩, ps.length, rfl, Nat.le_refl _, by unfold maxLen; omega, aps_len ps, (fun h => by cases h), fun _ => ⟨m, 0, rfl, h.lt, fun j hj => by rw [Nat.zero_add]; exact h.cell j⟩⟩

set_option maxRecDepth 100000 in
theorem often_alt (W : World) (m : Nat) (h2 : Holds W (m + 1 + 1) 3 [.int .i64 1]) (h3 : Holds W (m + 1 + 1 + 1) 22 [.slice (some ⟨m + 1 + 1, 0, none⟩) 1 1]) (h4 : Holds W (m + 1 + 1 + 1 + 1) 3 [.int .i64 0])
    (h5 : Holds W (m + 1 + 1 + 1 + 1 + 1) 89 [.int .u64 1, .int .u64 0, .slice none 0 0, .int .u64 0, .int .u64 0, .slice (some ⟨m + 1 + 1 + 1 + 1, 0, none⟩) 1 1])
    (h6 : Holds W (m + 1 + 1 + 1 + 1 + 1 + 1) 3 [.int .i64 1]) (h7 : Holds W (m + 1 + 1 + 1 + 1 + 1 + 1 + 1) 3 [.int .i64 0, .int .i64 1])
    (h8 : Holds W (m + 1 + 1 + 1 + 1 + 1 + 1 + 1 + 1) 89 [.int .u64 1, .int .u64 0, .slice (some ⟨m + 1 + 1 + 1 + 1 + 1 + 1, 0, none⟩) 1 1, .int .u64 0, .int .u64 0, .slice (some ⟨m + 1 + 1 + 1 + 1 + 1 + 1 + 1, 0, none⟩) 2 2])
    (h9 : Holds W (m + 1 + 1 + 1 + 1 + 1 + 1 + 1 + 1 + 1) 77 [.bool true, .slice (some ⟨m + 1 + 1 + 1 + 1 + 1, 0, none⟩) 2 2, .bool false, .slice (some ⟨m + 1 + 1 + 1 + 1 + 1 + 1 + 1 + 1, 0, none⟩) 2 2]) :
    AltAt W.heap.size W (.agg #[.slice (some ⟨m + 1 + 1 + 1, 0, none⟩) 1 1, .slice (some ⟨m + 1 + 1 + 1 + 1 + 1 + 1 + 1 + 1 + 1, 0, none⟩) 2 2]) oftenA := by
  have r2 := rowI_one (xs := [1]) h2 (by simp) (by simp)
  have r4 := rowI_one (xs := [0]) h4 (by simp) (by simp)
  have r6 := rowI_one (xs := [1]) h6 (by simp) (by simp)
  have r7 := rowI_one (xs := [0, 1]) h7 (by simp) (by simp)
  have rn : RowI W.heap.size W (.slice none 0 0) [] := ⟨Row.nil _ _ _, by simp⟩
  have p5 := rowP_of (ps := [(⟨1, 0, []⟩, .slice none 0 0), (⟨0, 0, [0]⟩, .slice (some ⟨m + 1 + 1 + 1 + 1, 0, none⟩) 1 1)]) h5 (by simp)
  have p8 := rowP_of (ps := [(⟨1, 0, [1]⟩, .slice (some ⟨m + 1 + 1 + 1 + 1 + 1 + 1, 0, none⟩) 1 1), (⟨0, 0, [0, 1]⟩, .slice (some ⟨m + 1 + 1 + 1 + 1 + 1 + 1 + 1, 0, none⟩) 2 2)]) h8 (by simp)
  have a5 : RowA W.heap.size W (.slice (some ⟨m + 1 + 1 + 1 + 1 + 1, 0, none⟩) 2 2) [⟨1, 0, []⟩, ⟨0, 0, [0]⟩] := ⟨_, rfl, p5, fun p hp => by
    rcases List.mem_cons.1 hp with rfl | hp
    · exact ⟨rn, by simp, by simp⟩
    · rw [List.mem_singleton.1 hp]; exact ⟨r4, by simp, by simp⟩⟩
  have a8 : RowA W.heap.size W (.slice (some ⟨m + 1 + 1 + 1 + 1 + 1 + 1 + 1 + 1, 0, none⟩) 2 2) [⟨1, 0, [1]⟩, ⟨0, 0, [0, 1]⟩] := ⟨_, rfl, p8, fun p hp => by
    rcases List.mem_cons.1 hp with rfl | hp
    · exact ⟨r6, by simp, by simp⟩
    · rw [List.mem_singleton.1 hp]; exact ⟨r7, by simp, by simp⟩⟩
  refine ⟨_, _, rfl, ⟨[.slice (some ⟨m + 1 + 1, 0, none⟩) 1 1], ?_, ?_⟩, ⟨[((true, [⟨1, 0, []⟩, ⟨0, 0, [0]⟩]), .slice (some ⟨m + 1 + 1 + 1 + 1 + 1, 0, none⟩) 2 2), ((false, [⟨1, 0, [1]⟩, ⟨0, 0, [0, 1]⟩]), .slice (some ⟨m + 1 + 1 + 1 + 1 + 1 + 1 + 1 + 1, 0, none⟩) 2 2)], rfl, ?_, ?_⟩⟩
  · exact ⟨_, 1, rfl, Nat.le_refl _, by unfold maxLen; omega, rfl, (fun h => by cases h), fun _ => ⟨_, 0, rfl, h3.lt, fun j hj => by rw [Nat.zero_add]; exact h3.cell j⟩⟩
  · intro i hi
    have : i = 0 := by simp [oftenA] at hi; exact hi
    subst this
    exact ⟨_, rfl, r2⟩
  · exact ⟨_, 2, rfl, Nat.le_refl _, by unfold maxLen; omega, rfl, (fun h => by cases h), fun _ => ⟨_, 0, rfl, h9.lt, fun j hj => by rw [Nat.zero_add]; exact h9.cell j⟩⟩
  · intro s hs
    rcases List.mem_cons.1 hs with rfl | hs
    · exact a5
    · rw [List.mem_singleton.1 hs]; exact a8

def oftenW (w : World) : World :=
  (((((((((w.alloc (.cells #[.slice (some ⟨w.heap.size + 1 + 1 + 1, 0, none⟩) 1 1, .slice (some ⟨w.heap.size + 1 + 1 + 1 + 1 + 1 + 1 + 1 + 1 + 1, 0, none⟩) 2 2] 39)).alloc (.cells #[.int .u64 1, .int .u64 0] 51)).alloc (.cells #[.int .i64 1] 3)).alloc (.cells #[.slice (some ⟨w.heap.size + 1 + 1, 0, none⟩) 1 1] 22)).alloc (.cells #[.int .i64 0] 3)).alloc
    (.cells #[.int .u64 1, .int .u64 0, .slice none 0 0, .int .u64 0, .int .u64 0, .slice (some ⟨w.heap.size + 1 + 1 + 1 + 1, 0, none⟩) 1 1] 89)).alloc (.cells #[.int .i64 1] 3)).alloc (.cells #[.int .i64 0, .int .i64 1] 3)).alloc
    (.cells #[.int .u64 1, .int .u64 0, .slice (some ⟨w.heap.size + 1 + 1 + 1 + 1 + 1 + 1, 0, none⟩) 1 1, .int .u64 0, .int .u64 0, .slice (some ⟨w.heap.size + 1 + 1 + 1 + 1 + 1 + 1 + 1, 0, none⟩) 2 2] 89)).alloc
    (.cells #[.bool true, .slice (some ⟨w.heap.size + 1 + 1 + 1 + 1 + 1, 0, none⟩) 2 2, .bool false, .slice (some ⟨w.heap.size + 1 + 1 + 1 + 1 + 1 + 1 + 1 + 1, 0, none⟩) 2 2] 77)
theorem holds_at {w : World} {k : Nat} (hk : w.heap.size = k) (t : TypeId) (cs : Array Value) : Holds (w.alloc (.cells cs t)) k t cs.toList := by
  subst hk; exact Holds.new w t cs
set_option maxRecDepth 100000 in
theorem often_below (w : World) : Below w.heap.size w (oftenW w) := by
  unfold oftenW
  exact (((((((((((Below.refl _ _).alloc (Nat.le_refl _) _).alloc (by simp) _).alloc (by simp; omega) _).alloc (by simp; omega) _).alloc (by simp; omega) _).alloc (by simp; omega) _).alloc (by simp; omega) _).alloc (by simp; omega) _).alloc (by simp; omega) _).alloc (by simp; omega) _)
set_option maxRecDepth 100000 in
theorem often_w0 (w : World) : Holds (oftenW w) w.heap.size 39 [.slice (some ⟨w.heap.size + 1 + 1 + 1, 0, none⟩) 1 1, .slice (some ⟨w.heap.size + 1 + 1 + 1 + 1 + 1 + 1 + 1 + 1 + 1, 0, none⟩) 2 2] := by
  unfold oftenW
  exact (((((((((Holds.new w 39 _).alloc _).alloc _).alloc _).alloc _).alloc _).alloc _).alloc _).alloc _).alloc _
set_option maxHeartbeats 4000000 in
set_option maxRecDepth 100000 in
theorem often_ws (w : World) : AltAt (oftenW w).heap.size (oftenW w) (.agg #[.slice (some ⟨w.heap.size + 1 + 1 + 1, 0, none⟩) 1 1, .slice (some ⟨w.heap.size + 1 + 1 + 1 + 1 + 1 + 1 + 1 + 1 + 1, 0, none⟩) 2 2]) oftenA := by
  unfold oftenW
  refine often_alt _ w.heap.size ?_ ?_ ?_ ?_ ?_ ?_ ?_ ?_
  · exact (((((((holds_at (by simp) 3 #[.int .i64 1]).alloc _).alloc _).alloc _).alloc _).alloc _).alloc _).alloc _
  · exact ((((((holds_at (by simp) 22 #[.slice (some ⟨w.heap.size + 1 + 1, 0, none⟩) 1 1]).alloc _).alloc _).alloc _).alloc _).alloc _).alloc _
  · exact (((((holds_at (by simp) 3 #[.int .i64 0]).alloc _).alloc _).alloc _).alloc _).alloc _
  · exact ((((holds_at (by simp) 89 _).alloc _).alloc _).alloc _).alloc _
  · exact (((holds_at (by simp) 3 _).alloc _).alloc _).alloc _
  · exact ((holds_at (by simp) 3 _).alloc _).alloc _
  · exact (holds_at (by simp) 89 _).alloc _
  · exact holds_at (by simp) 77 _
set_option maxHeartbeats 4000000 in
set_option maxRecDepth 100000 in
theorem oftenFn (w : World) : Calls Tryd.prog 21 #[] w fun e w' => ∃ v, e = .returned v ∧ AltAt w'.heap.size w' v oftenA ∧ Below w.heap.size w w' := by
  go_enter Tryd.func21, Tryd.ntmps21
  go_wp2
  change bodyPost _ _ _ _ _ (oftenW w)
  have y0 := (often_w0 w).cell 0
  have y1 := (often_w0 w).cell 1
  simp only [List.getElem?_cons_zero, List.getElem?_cons_succ] at y0 y1
  have hA := often_ws w
  have hB := often_below w
  generalize oftenW w = W at *
  exact bodyPost_ret (v := .agg #[.slice (some ⟨w.heap.size + 1 + 1 + 1, 0, none⟩) 1 1, .slice (some ⟨w.heap.size + 1 + 1 + 1 + 1 + 1 + 1 + 1 + 1 + 1, 0, none⟩) 2 2]) (by simp [results, Tryd.f21, go_sem, y0, y1]) rfl ⟨_, rfl, hA, hB⟩
end Go.Proofs.YtelanndleinabaaDoor
