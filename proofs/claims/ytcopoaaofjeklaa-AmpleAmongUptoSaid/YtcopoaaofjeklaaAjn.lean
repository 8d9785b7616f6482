/- The walks of net.together and its join: what two footprints do. -/
import Derived.Test.YtcopoaaofjeklaaMa6
import Derived.Test.YtcopoaaofjeklaaTap
import Derived.Test.YtcopoaaofjeklaaShelf
namespace Go.Proofs.Ytcopoaaofjeklaa.G
open Go.RowKit
set_option linter.unusedVariables false
set_option linter.unusedSimpArgs false

theorem owns_row {W : World} {lo g n cap : Nat} {l : List Int} (h : W.ownsRow lo 3 1 (.slice (some ⟨g, 0, none⟩) n cap) n (l.map intV)) : ∃ cur, W.heap[g]? = some (.cells cur 3 (0, 0)) ∧ n ≤ cap ∧ cap ≤ maxLen ∧ cur.size = cap ∧ lo ≤ g ∧ cur.toList.take n = l.map intV := by
  rcases h.2 with ⟨h0, _⟩ | ⟨g', cap', cur, he, hb, hg, hnc, hcm, hcs, ht⟩
  · cases h0
  · injection he with he _ hc
    injection he with he
    injection he with he _ _
    subst he
    subst hc
    exact ⟨cur, hg, hnc, hcm, by omega, hb, by rw [Nat.mul_one] at ht; exact ht⟩
theorem owns_sort {W : World} {lo g n cap : Nat} {l : List Int} (h : W.ownsRow lo 3 1 (.slice (some ⟨g, 0, none⟩) n cap) n (l.map intV)) (hl : l.length = n) : Go.Sort.Holds (Value.int .i64) W g 0 l.toArray := by
  intro j hj
  have hj : j < l.length := by simpa using hj
  constructor
  · rw [Nat.zero_add, h.cellAt j (by omega), List.getElem?_map, List.getElem?_eq_getElem hj]
    simp [hj]
    rfl
  · obtain ⟨cur, hg, _⟩ := owns_row h
    exact (show Holds W g 3 cur.toList by unfold Holds; simpa using hg).free _
theorem putRow_owns {W W' : World} {lo g n cap q : Nat} {l l' : List Int} {os : Array Obj} (h : W.ownsRow lo 3 1 (.slice (some ⟨g, 0, none⟩) n cap) n (l.map intV)) (hl : l'.length = n) (hW : W' = Go.Sort.grow (Go.Sort.putRow (Value.int .i64) (Go.Sort.ahead W q) g 0 l'.toArray) os) :
    W'.ownsRow lo 3 1 (.slice (some ⟨g, 0, none⟩) n cap) n (l'.map intV) ∧ Fr (fun k => k = g) W W' := by
  obtain ⟨cur, hg, hnc, hcm, hcs, hlo, ht⟩ := owns_row h
  have hlt : g < W.heap.size := (Array.getElem?_eq_some_iff.1 hg).1
  refine ⟨⟨by simp [hl], .inr ⟨g, cap, Go.Sort.putCells (Value.int .i64) 0 l'.toArray cur, rfl, hlo, ?_, hnc, hcm, by simp [Go.Sort.putCells, hcs], ?_⟩⟩, ⟨by rw [hW]; rfl, by rw [hW]; rfl, by rw [hW]; rfl, ?_, fun k hk hn => ?_⟩⟩
  · rw [hW]
    show ((W.heap.modify g _) ++ os)[g]? = _
    rw [Array.getElem?_append_left (by simpa using hlt), Array.getElem?_modify, if_pos rfl, hg]
    rfl
  · apply List.ext_getElem?
    intro j
    rw [Nat.mul_one, List.getElem?_take]
    by_cases hj : j < n
    · rw [if_pos hj, Array.getElem?_toList, Go.Sort.putCells, Array.getElem?_mapIdx, Array.getElem?_eq_getElem (by omega), Option.map_some, if_pos ⟨Nat.zero_le _, by simp [hl]; omega⟩, List.getElem?_map, List.getElem?_eq_getElem (by omega)]
      have hj' : j < l'.length := by omega
      simp [hj']
      rfl
    · rw [if_neg hj, List.getElem?_eq_none (by simp; omega)]
  · rw [hW]
    show W.heap.size ≤ ((W.heap.modify g _) ++ os).size
    simp
  · rw [hW]
    show ((W.heap.modify g _) ++ os)[k]? = _
    rw [Array.getElem?_append_left (by simpa using hk), Array.getElem?_modify, if_neg (fun e => hn e.symm)]
theorem RowL.short {P : Nat → Prop} {w : World} {a : Option Addr} {n m cap : Nat} {l l' : List Int} (h : RowL P w 1 (.slice a n cap) n ((l ++ l').map intV)) (hm : l.length = m) : RowL P w 1 (.slice a m cap) m (l.map intV) := by
  obtain ⟨a', cap', he, h2, h3, h4, h5, h6⟩ := h
  injection he with he1 _ he3
  subst he1
  subst he3
  have hlen : l.length + l'.length = n := by simpa using h4
  refine ⟨a, cap, rfl, by omega, h3, by simp [hm], h5, fun hp => ?_⟩
  obtain ⟨g, o, cs, t, k1, k2, k3, k4⟩ := h6 (by omega)
  refine ⟨g, o, cs, t, k1, k2, k3, fun j hj => ?_⟩
  rw [k4 j (by omega), List.map_append, List.getElem?_append_left (by simp; omega)]
theorem compact_len (l : List Int) : (Lib.compact l).length ≤ l.length := by
  unfold Lib.compact Lib.compactUpTo
  rw [List.length_map]
  exact Nat.le_trans (List.length_filter_le _ _) (by simp)
theorem joinP_len (x y : List Int) : (joinP x y).length ≤ x.length + y.length := by
  unfold joinP
  refine Nat.le_trans (compact_len _) ?_
  rw [List.length_mergeSort, List.length_append]
  exact Nat.le_refl _
def JoinPost (l1 l2 : List Int) (w : World) (e : Ending) (w' : World) : Prop := Below w.heap.size w w' ∧ ∃ v, e = .returned v ∧ RowL (From w.heap.size) w' 1 v (joinP l1 l2).length ((joinP l1 l2).map intV)
theorem int_one (l : List Int) : ∀ u ∈ l.map intV, u.oneCell' = true := fun u hu => by
  obtain ⟨n, _, rfl⟩ := List.mem_map.1 hu
  rfl
set_option maxHeartbeats 1000000 in
set_option maxRecDepth 100000 in
theorem joinFn {P1 P2 : Nat → Prop} {w : World} {v1 v2 : Value} {l1 l2 : List Int} (h1 : RowL P1 w 1 v1 l1.length (l1.map intV)) (h2 : RowL P2 w 1 v2 l2.length (l2.map intV)) (hn : l1.length ≤ 400000) (hm : l2.length ≤ 400000) : Calls Try.prog 65 #[v1, v2] w (JoinPost l1 l2 w) := by
  obtain ⟨a1, c1, rfl, _, _, _⟩ := h1.form
  obtain ⟨a2, c2, rfl, _, _, _⟩ := h2.form
  obtain ⟨w1, hw1⟩ : ∃ W, W = w.alloc (.cells #[.slice a1 l1.length c1, .slice a2 l2.length c2] 22) := ⟨_, rfl⟩
  have hb1 : Below w.heap.size w w1 := by rw [hw1]; exact (Below.refl _ _).alloc (Nat.le_refl _) _
  have hrow : RowL (fun _ => True) w1 1 (.slice (some ⟨w.heap.size, 0, none⟩) 2 2) 2 [.slice a1 l1.length c1, .slice a2 l2.length c2] := ⟨_, _, rfl, by omega, by omega, rfl, fun h => (by cases h), fun _ => ⟨w.heap.size, 0, [.slice a1 l1.length c1, .slice a2 l2.length c2], _, rfl, trivial, by rw [hw1]; exact (Holds.new w 22 #[.slice a1 l1.length c1, .slice a2 l2.length c2]).r, fun j hj => by rw [Nat.zero_add]⟩⟩
  have HC := Lib.hid (concatFn hrow (h1.up (Keep.below hb1)) (h2.up (Keep.below hb1)) (int_one _) (int_one _) hn hm)
  have HB1 := Lib.hid hb1
  have HN := Lib.hid hn
  have HM := Lib.hid hm
  clear h1 h2 hb1 hrow hn hm
  go_enter Try.func65, Try.ntmps65
  go_wp2_with (fail)
  rw [← hw1]
  clear hw1
  refine HC.out.mono ?_
  rintro e w2 ⟨hb2, v, rfl, hown⟩
  have hb2' : Below w.heap.size w w2 := HB1.out.trans (hb2.mono HB1.out.size)
  rw [← List.map_append] at hown
  clear HC
  obtain ⟨n, hnn⟩ : ∃ n, l1.length + l2.length = n := ⟨_, rfl⟩
  rw [hnn] at hown
  obtain ⟨zs, hzs⟩ : ∃ zs, l1 ++ l2 = zs := ⟨_, rfl⟩
  have hzl : zs.length = n := by rw [← hzs, List.length_append]; exact hnn
  rw [hzs] at hown
  have HJ : Hid (joinP l1 l2 = Lib.compact (zs.mergeSort fun x y => decide (x ≤ y))) := by show _ = _; rw [← hzs]; rfl
  have hn2 : n ≤ 800000 := by have := HN.out; have := HM.out; omega
  by_cases hn0 : n = 0
  · subst hn0
    have hz0 : zs = [] := List.eq_nil_of_length_eq_zero hzl
    subst hz0
    have HJ0 : Hid (joinP l1 l2 = []) := by
      show _ = _
      rw [HJ.out]
      simp [Lib.compact, Lib.compactUpTo]
    obtain ⟨p, cap, rfl⟩ : ∃ p cap, v = .slice p 0 cap := by
      rcases hown.2 with ⟨h0, _⟩ | ⟨g, cap, _, h0, _⟩
      · exact ⟨_, _, h0⟩
      · exact ⟨_, _, h0⟩
    have HR := Lib.hid (RowL.of_owns (P := From w.heap.size) hown fun k hk => Nat.le_trans HB1.out.size hk)
    have HB2 := Lib.hid hb2'
    clear hown hb2 hb2' hzl hzs hnn
    go_wp2_with (first | (go_at_call 66; refine (Try.slices_Sort_int_none _ _ _).mono ?_; rintro e w3 ⟨rfl, rfl⟩) | (go_at_call 67; refine (Try.slices_Compact_int_empty _ _ _).mono ?_; rintro e w4 ⟨rfl, rfl⟩))
    go_ret
    exact ⟨HB2.out, _, rfl, by rw [HJ0.out]; exact HR.out⟩
  · obtain ⟨g, cap, rfl⟩ : ∃ g cap, v = .slice (some ⟨g, 0, none⟩) n cap := by
      rcases hown.2 with ⟨_, h0⟩ | ⟨g, cap, _, h0, _⟩
      · exact absurd h0 hn0
      · exact ⟨_, _, h0⟩
    obtain ⟨cur, hg, hnc, hcm, hcs, hlo, _⟩ := owns_row hown
    have hglt : g < w2.heap.size := (Array.getElem?_eq_some_iff.1 hg).1
    have hS := Try.slices_Sort_int g 0 cap zs w2 (owns_sort hown hzl) hglt (by omega)
    rw [hzl] at hS
    have HS := Lib.hid hS
    have HO := Lib.hid hown
    have HB2 := Lib.hid hb2'
    have HZL := Lib.hid hzl
    have HLO : Hid (w.heap.size ≤ g) := Nat.le_trans HB1.out.size hlo
    have HNC := Lib.hid hnc
    have HGL := Lib.hid hglt
    clear hg hcm hcs hlo hS hown hb2' hb2 hglt hzl hzs hnn hnc
    go_wp2_with (fail)
    refine HS.out.mono ?_
    rintro e w3 ⟨rfl, q, os, hw3⟩
    obtain ⟨ss, hss⟩ : ∃ ss, (zs.mergeSort fun x y => decide (x ≤ y)) = ss := ⟨_, rfl⟩
    rw [hss] at hw3
    have hsl : ss.length = n := by rw [← hss, List.length_mergeSort]; exact HZL.out
    obtain ⟨hown3, hf3⟩ := putRow_owns HO.out hsl hw3
    have hJ := HJ.out
    rw [hss] at hJ
    have HJ3 := Lib.hid hJ
    have hb3 : Below w.heap.size w w3 := HB2.out.trans (hf3.to_below (by have := HB2.out.size; omega) fun k hk e => by have := HLO.out; omega)
    have hC := Try.slices_Compact_int g 0 cap ss w3 (owns_sort hown3 hsl) (by omega) (by rw [hsl]; exact HNC.out)
    rw [hsl] at hC
    have HC := Lib.hid hC
    have HO3 := Lib.hid hown3
    have HB3 := Lib.hid hb3
    have HSL := Lib.hid hsl
    clear hw3 hss hsl hown3 hf3 hJ hC hb3 HS HO HJ
    go_wp2_with (fail)
    refine HC.out.mono ?_
    rintro e w4 ⟨rfl, q4, hw4⟩
    have hcl : (Lib.compact ss).length ≤ n := by rw [← HSL.out]; exact compact_len ss
    obtain ⟨hown4, hf4⟩ := putRow_owns (W' := w4) (os := #[]) (q := q4) HO3.out (l' := Lib.compact ss ++ List.replicate (n - (Lib.compact ss).length) 0) (by rw [List.length_append, List.length_replicate]; omega) (hw4.trans (Go.Sort.grow_empty _).symm)
    have HB4 : Hid (Below w.heap.size w w4) := HB3.out.trans (hf4.to_below (by have := HB3.out.size; omega) fun k hk e => by have := HLO.out; omega)
    have HR4 := Lib.hid (RowL.short (RowL.of_owns (P := From w.heap.size) hown4 fun k hk => Nat.le_trans HB1.out.size hk) rfl)
    clear hw4 hown4 hf4 hcl HC HO3
    go_wp2
    go_ret
    exact ⟨HB4.out, _, rfl, by rw [HJ3.out]; exact HR4.out⟩
end Go.Proofs.Ytcopoaaofjeklaa.G
