/- The walk of join: Concat, then Sort and Compact by the shelf's contracts. -/
import Derived.Test.YtelanndleinabaaDoorAChk
import Derived.Test.YtelanndleinabaaDoorCatI
import Derived.Lib.OwnBridge
import Derived.Test.YtelanndleinabaaDoorLookS
namespace Go.Proofs.YtelanndleinabaaDoor
open Go.RowKit
open Go.Sort (grow)
set_option linter.unusedVariables false

/-- What the sort leaves. -/
def sortI (l : List Int) : List Int := l.mergeSort fun x y => decide (x ≤ y)
def joinI (a b : List Int) : List Int := Lib.compact (sortI (a ++ b))
theorem sortI_len (l : List Int) : (sortI l).length = l.length := by unfold sortI; exact List.length_mergeSort l

theorem below_grow' (w : World) (os : Array Obj) : Below w.heap.size w (grow w os) := below_grown w 0 os

theorem ownS_sorted {w : World} {base g cap n q : Nat} {zs : List Int} {os : Array Obj} (h : w.ownsRow base 3 1 (.slice (some ⟨g, 0, none⟩) n cap) n (ints zs)) (hn : zs.length = n) :
    (grow (Sort.putRow (Value.int .i64) (Sort.ahead w q) g 0 (sortI zs).toArray) os).ownsRow base 3 1 (.slice (some ⟨g, 0, none⟩) n cap) n (ints (sortI zs)) := by
  have h1 := Lib.ownsRow_putRow (enc := Value.int .i64) (q := q) (k := n) (ys := sortI zs) h (by rw [sortI_len, hn]) (Nat.le_refl _)
  rw [List.take_of_length_le (by rw [sortI_len, hn]; exact Nat.le_refl _)] at h1
  exact (Fr.of_below (below_grow' _ os) (fun _ => False)).owns h1 (fun _ _ h => h)
theorem ownS_compact {w : World} {base g cap n q : Nat} {zs : List Int} (h : w.ownsRow base 3 1 (.slice (some ⟨g, 0, none⟩) n cap) n (ints zs)) (hn : zs.length = n) (hc : (Lib.compact zs).length ≤ zs.length) :
    (Sort.putRow (Value.int .i64) (Sort.ahead w q) g 0 (Lib.compact zs ++ List.replicate (zs.length - (Lib.compact zs).length) 0).toArray).ownsRow base 3 1 (.slice (some ⟨g, 0, none⟩) (Lib.compact zs).length cap) (Lib.compact zs).length (ints (Lib.compact zs)) := by
  have h1 := Lib.ownsRow_putRow (enc := Value.int .i64) (q := q) (k := (Lib.compact zs).length) (ys := Lib.compact zs ++ List.replicate (zs.length - (Lib.compact zs).length) 0) h (by simp; omega) (by omega)
  rw [List.take_left] at h1
  exact h1

set_option maxHeartbeats 1000000 in
set_option maxRecDepth 100000 in
theorem joinFn (va vb : Value) (xs ys : List Int) (w : World) (ha : RowI w.heap.size w va xs) (hb : RowI w.heap.size w vb ys) (hl : xs.length + ys.length ≤ 8192) :
    Calls Tryd.prog 47 #[va, vb] w fun e w' => ∃ v, e = .returned v ∧ w'.ownsRow w.heap.size 3 1 v (joinI xs ys).length (ints (joinI xs ys)) ∧ Below w.heap.size w w' := by
  have hB0 : Below w.heap.size w (w.alloc (.cells #[va, vb] 22)) := (Below.refl _ _).alloc (Nat.le_refl _) _
  have hH := Holds.new w 22 #[va, vb]
  have HC := Lib.hid (concatI w.heap.size va vb xs ys _ (hH.cell 0) (hH.cell 1) hH.lt ((ha.below hB0).mono hB0.size) ((hb.below hB0).mono hB0.size) hl)
  obtain ⟨a1, c1, rfl, _, _⟩ := ha.form
  obtain ⟨a2, c2, rfl, _, _⟩ := hb.form
  have HL := Lib.hid hl
  obtain ⟨R, hR⟩ : ∃ R, joinI xs ys = R := ⟨_, rfl⟩
  rw [hR]
  have HR := Lib.hid hR
  clear hH ha hb hl hR
  go_enter Tryd.func47, Tryd.ntmps47
  go_wp2_with (fail)
  refine (HC.out).mono ?_
  rintro e w2 ⟨v, rfl, hown, hB2⟩
  have hB := hB0.trans (hB2.mono hB0.size)
  have hbase : w.heap.size ≤ (w.alloc (.cells #[Value.slice a1 xs.length c1, Value.slice a2 ys.length c2] 22)).heap.size := hB0.size
  have hown1 := own_mono hown hbase
  have hlen : (xs ++ ys).length ≤ 8192 := by rw [List.length_append]; exact HL.out
  clear HC hB0 hB2 hown hbase
  by_cases hv : v = .slice none 0 0
  · have hnil : xs ++ ys = [] := by
      rcases hown1.2 with ⟨_, h0⟩ | ⟨g, cap, cur, hv2, _⟩
      · exact List.length_eq_zero_iff.1 h0
      · rw [hv] at hv2; cases hv2
    have hj : R = [] := by
      rw [← HR.out]
      unfold joinI
      rw [hnil]
      have h1 : sortI [] = [] := by simp [sortI]
      rw [h1]
      exact List.length_eq_zero_iff.1 (by have := Lib.compact_length_le ([] : List Int); simpa using this)
    subst hj
    subst hv
    clear hown1 hlen hnil HR
    go_wp2_with (fail)
    refine (Tryd.slices_Sort_int_none none 0 w2).mono ?_
    rintro e w2 ⟨rfl, rfl⟩
    go_wp2_with (fail)
    refine (Tryd.slices_Compact_int_empty none 0 w2).mono ?_
    rintro e w2 ⟨rfl, rfl⟩
    go_wp2
    go_ret
    exact ⟨_, rfl, ⟨rfl, .inl ⟨rfl, rfl⟩⟩, hB⟩
  · obtain ⟨g, cap, rfl, hg1, hg2, hn1, hn2, hzl, hH⟩ := Lib.holds_of_ownsRow (enc := Value.int .i64) (zs := xs ++ ys) hown1 hv
    clear hv hzl
    have HS := Lib.hid (Tryd.slices_Sort_int g 0 cap (xs ++ ys) w2 hH hg2 (by omega))
    obtain ⟨zs, hzs⟩ : ∃ zs, xs ++ ys = zs := ⟨_, rfl⟩
    have hjo : R = Lib.compact (sortI zs) := by rw [← HR.out]; unfold joinI; rw [hzs]
    have HJO := Lib.hid hjo
    rw [hzs] at hown1 hn1 hlen HS ⊢
    obtain ⟨n, hn⟩ : ∃ n, zs.length = n := ⟨_, rfl⟩
    rw [hn] at hown1 hn1 hlen HS ⊢
    have HN := Lib.hid hn
    unfold maxLen at hn2
    clear hH hzs hjo hn
    go_wp2_with (fail)
    refine (HS.out).mono ?_
    rintro e w3 ⟨rfl, q, os, hw3⟩
    have hB3 : Below w.heap.size w w3 := by
      have h1 := Lib.below_putRow (enc := Value.int .i64) (q := q) (d := (sortI zs).toArray) hB hg1
      rw [hw3]
      exact h1.trans ((below_grow' _ os).mono h1.size)
    have hown3 : w3.ownsRow w.heap.size 3 1 (.slice (some ⟨g, 0, none⟩) n cap) n (ints (sortI zs)) := by
      rw [hw3]
      exact ownS_sorted (q := q) (os := os) hown1 HN.out
    have hsl : (sortI zs).length = n := by rw [sortI_len]; exact HN.out
    obtain ⟨g', cap', hv', _, hg2', _, _, _, hH3⟩ := Lib.holds_of_ownsRow (enc := Value.int .i64) (zs := sortI zs) hown3 (by simp)
    injection hv' with hv1 _ hv3
    injection hv1 with hv1
    injection hv1 with hv1
    subst hv1 hv3
    have HCO := Lib.hid (Tryd.slices_Compact_int g 0 cap (sortI zs) w3 hH3 (by omega) (by omega))
    rw [hsl] at HCO
    have HSL := Lib.hid hsl
    clear hw3 hH3 hB hown1 hsl
    go_wp2_with (fail)
    refine (HCO.out).mono ?_
    rintro e w4 ⟨rfl, q2, hw4⟩
    have hB4 : Below w.heap.size w w4 := by
      rw [hw4]
      exact Lib.below_putRow hB3 hg1
    have hown4 : w4.ownsRow w.heap.size 3 1 (.slice (some ⟨g, 0, none⟩) (Lib.compact (sortI zs)).length cap) (Lib.compact (sortI zs)).length (ints (Lib.compact (sortI zs))) := by
      rw [hw4, ← HSL.out]
      exact ownS_compact (q := q2) hown3 HSL.out (Lib.compact_length_le _)
    clear hw4 hB3 hown3
    go_wp2
    go_ret
    rw [HJO.out]
    exact ⟨_, rfl, hown4, hB4⟩
end Go.Proofs.YtelanndleinabaaDoor
