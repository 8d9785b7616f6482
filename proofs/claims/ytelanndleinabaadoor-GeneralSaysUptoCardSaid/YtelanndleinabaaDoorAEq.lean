/- slices.Equal over ints by the shelf's contract; the function value of ways. -/
import Derived.Test.YtelanndleinabaaDoorASmall
namespace Go.Proofs.YtelanndleinabaaDoor
open Go.RowKit
set_option linter.unusedVariables false

theorem rowI_cells {B : Nat} {w : World} {a : Option Addr} {m cap : Nat} {xs : List Int} (h : RowI B w (.slice a m cap) xs) (hn : 0 < xs.length) : ∃ g o, a = some ⟨g, o, none⟩ ∧ g < B ∧ ∀ j, j < xs.length → w.cell? ⟨g, o + j, none⟩ = some (.int .i64 (xs.getD j 0)) := by
  obtain ⟨g, o, ha, hg, hc⟩ := h.1.at hn
  refine ⟨g, o, ha, hg, fun j hj => ?_⟩
  rw [hc j (by omega)]
  simp [ints, hj]
theorem equalI (va vb : Value) (xs ys : List Int) (w : World) (ha : RowI w.heap.size w va xs) (hb : RowI w.heap.size w vb ys) :
    Calls Tryd.prog 50 #[va, vb] w fun e w' => e = .returned (.bool (xs == ys)) ∧ Below w.heap.size w w' := by
  obtain ⟨a1, c1, rfl, h1, h2⟩ := ha.form
  obtain ⟨a2, c2, rfl, h3, h4⟩ := hb.form
  by_cases hl : xs.length = ys.length
  · by_cases h0 : xs.length = 0
    · have hx : xs = [] := List.length_eq_zero_iff.1 h0
      have hy : ys = [] := List.length_eq_zero_iff.1 (by omega)
      subst hx hy
      exact (Tryd.slices_Equal_int_empty a1 a2 c1 0 c2 w (by omega)).mono fun e w' ⟨he, hw⟩ => ⟨he, hw ▸ Below.refl _ _⟩
    · obtain ⟨g1, o1, rfl, hg1, k1⟩ := rowI_cells ha (by omega)
      obtain ⟨g2, o2, rfl, hg2, k2⟩ := rowI_cells hb (by omega)
      refine (Tryd.slices_Equal_int g1 o1 xs.length c1 g2 o2 ys.length c2 xs ys w (Nat.le_refl _) (Nat.le_refl _) (by omega) (by omega) k1 k2).mono fun e w' ⟨he, q, hw⟩ => ⟨?_, hw ▸ below_drewN' (Below.refl _ _) q⟩
      rw [List.take_length, List.take_length] at he
      exact he
  · refine (Tryd.slices_Equal_int_lens a1 a2 xs.length c1 ys.length c2 w hl).mono fun e w' ⟨he, hw⟩ => ⟨?_, hw ▸ Below.refl _ _⟩
    have : (xs == ys) = false := by simp; intro e; exact hl (by rw [e])
    rw [this]
    exact he

def sameB (o z : AMv) : Bool := o.yes == z.yes && o.no == z.no && o.to == z.to
set_option maxHeartbeats 1000000 in
set_option maxRecDepth 100000 in
theorem ways1 (o z : AP) (bz : Nat) (w : World) (hz0 : w.cell? ⟨bz, 0, none⟩ = some (.int .u64 (z.1.yes : Int))) (hz1 : w.cell? ⟨bz, 1, none⟩ = some (.int .u64 (z.1.no : Int))) (hz2 : w.cell? ⟨bz, 2, none⟩ = some z.2)
    (hot : RowI w.heap.size w o.2 o.1.to) (hzt : RowI w.heap.size w z.2 z.1.to) (hbz : bz < w.heap.size) :
    Calls Tryd.prog 49 #[apVal o, .pointer (some ⟨bz, 0, none⟩)] w fun e w' => e = .returned (.bool (sameB o.1 z.1)) ∧ Below w.heap.size w w' := by
  obtain ⟨⟨oy, on, ot⟩, ov⟩ := o
  obtain ⟨⟨zy, zn, zt⟩, zv⟩ := z
  simp only [apVal] at *
  unfold sameB
  simp only
  have hB : Below w.heap.size w (w.alloc (.cells #[.int .u64 (oy : Int), .int .u64 (on : Int), ov] 89)) := (Below.refl _ _).alloc (Nat.le_refl _) _
  have hY := Holds.new w 89 #[.int .u64 (oy : Int), .int .u64 (on : Int), ov]
  have hW := Lib.hid (equalI ov zv ot zt _ ((hot.below hB).mono hB.size) ((hzt.below hB).mono hB.size))
  obtain ⟨a1, cap1, rfl, _, _⟩ := hot.form
  obtain ⟨a2, cap2, rfl, _, _⟩ := hzt.form
  have g0 := (cell_below hB hbz 0).trans hz0
  have g1 := (cell_below hB hbz 1).trans hz1
  have g2 := (cell_below hB hbz 2).trans hz2
  have q0 := hY.cell 0
  have q1 := hY.cell 1
  have q2 := hY.cell 2
  simp only [List.getElem?_cons_zero, List.getElem?_cons_succ] at q0 q1 q2
  obtain ⟨n1, hn1⟩ : ∃ n, ot.length = n := ⟨_, rfl⟩
  obtain ⟨n2, hn2⟩ : ∃ n, zt.length = n := ⟨_, rfl⟩
  rw [hn1] at hW hB q0 q1 q2 g0 g1 g2 ⊢
  rw [hn2] at hW g2
  generalize (ot == zt) = be at hW ⊢
  clear hz0 hz1 hz2 hot hzt hY hn1 hn2
  by_cases h1 : oy = zy
  · by_cases h2 : on = zn
    · have hr : (oy == zy && on == zn && be) = be := by simp [h1, h2]
      rw [hr]
      subst h1 h2
      clear hr
      go_enter Tryd.func49, Tryd.ntmps49
      go_wp2_with (fail)
      refine (hW.out).mono ?_
      rintro e w2 ⟨rfl, hb2⟩
      have hB2 := hB.trans (hb2.mono hB.size)
      go_wp2
      go_ret
      exact ⟨rfl, hB2⟩
    · have hr : (oy == zy && on == zn && be) = false := by simp [h2]
      have h2' : ((on : Int) == (zn : Int)) = false := by simp; omega
      have h2'' : ¬ (on : Int) = (zn : Int) := by omega
      rw [hr]
      subst h1
      clear hr
      go_enter Tryd.func49, Tryd.ntmps49
      go_wp2
      go_ret
      exact ⟨rfl, hB⟩
  · have hr : (oy == zy && on == zn && be) = false := by simp [h1]
    have h2' : ((oy : Int) == (zy : Int)) = false := by simp; omega
    have h2'' : ¬ (oy : Int) = (zy : Int) := by omega
    rw [hr]
    clear hr
    go_enter Tryd.func49, Tryd.ntmps49
    go_wp2
    go_ret
    exact ⟨rfl, hB⟩
end Go.Proofs.YtelanndleinabaaDoor
