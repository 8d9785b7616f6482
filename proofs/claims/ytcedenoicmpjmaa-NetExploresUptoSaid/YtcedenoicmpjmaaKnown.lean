/- The walk of the statements' known: two processes' graph is explored, or refused. -/
import Derived.Test.YtcedenoicmpjmaaExp
import Derived.Test.YtcedenoicmpjmaaMs4
import Derived.Test.YtcedenoicmpjmaaNets
import Derived.Deep.RegionHeld3
namespace Go.Proofs.Ytcedenoicmpjmaa
open Go.RowKit Go.Maps
set_option linter.unusedVariables false
set_option linter.unusedSimpArgs false

theorem two_chk : chk twoN = true := by decide
theorem two_small : Small twoN := ⟨by decide, by decide, fun i hi j hj => by
  match i, hi, j, hj with
  | 0, _, 0, _ => exact ⟨by simp [twoN], by simp [twoN]⟩
  | 0, _, 1, _ => exact ⟨by simp [twoN], by simp [twoN]⟩
  | 0, _, j + 2, h => exact absurd h (by simp [twoN])
  | 1, _, j, h => exact absurd h (by simp [twoN])
  | i + 2, h, _, _ => exact absurd h (by simp [twoN])⟩
theorem two_ex2 : exF twoN 2 20001 0 [0] = some ([0, 1], twoN) := by rfl
theorem two_ex1 : exF twoN 1 20001 0 [0] = none := by rfl
theorem key1 : keyS 1 = ⟨#[1]⟩ := by
  unfold keyS
  rw [enc_lt (by omega)]
  rfl
set_option maxHeartbeats 4000000 in
set_option maxRecDepth 100000 in
theorem knownFn (w : World) : Calls Try.prog 11 #[] w (Yes w) := by
  go_enter Try.func11, Try.ntmps11
  go_wp2_with (fail)
  refine (twoFn _).mono ?_
  rintro e w1 ⟨hb1, v1, rfl, hv1⟩
  have HB1 := Lib.hid hb1
  have HV1 := Lib.hid hv1
  clear hb1 hv1
  go_wp2_with (fail)
  refine (ofFn HV1.out two_small).mono ?_
  rintro e w2 ⟨hb2, h2⟩
  rw [if_pos two_chk] at h2
  obtain ⟨v2, rfl, hv2⟩ := h2
  have HB2 : Hid (Below w.heap.size w w2) := HB1.out.trans (hb2.mono HB1.out.size)
  have HV2 := Lib.hid hv2
  clear hb2 hv2 HB1 HV1
  go_wp2_with (fail)
  refine (exploreFn (most := 2) HV2.out two_chk two_small (by omega) (by omega)).mono ?_
  rintro e w3 ⟨hb3, h3⟩
  rw [two_ex2] at h3
  obtain ⟨vn, vs, rfl, hvn, hvs⟩ := h3
  have HB3 : Hid (Below w.heap.size w w3) := HB2.out.trans (hb3.mono HB2.out.size)
  have HV23 := Lib.hid (HV2.out.up (Keep.below hb3))
  obtain ⟨fn3, hrn3, hgn3⟩ := hvn
  change RowL _ _ 5 _ 2 _ at hrn3
  change RowL _ _ 1 _ 2 _ at hvs
  obtain ⟨a3, c3, rfl, _, _, _⟩ := hrn3.form
  have HVN := Lib.hid (show NetV (From w2.heap.size) w3 (.slice a3 2 c3) twoN from ⟨fn3, hrn3, hgn3⟩)
  obtain ⟨as0, cs, rfl, hcs, _, _, _, h6⟩ := hvs
  obtain ⟨gs, os, css, ts, rfl, hgs, hhs, hcc⟩ := h6 (by decide)
  have hc1 : css[os + 1]? = some (.string ⟨#[1]⟩) := by
    rw [hcc 1 (by decide), ← key1]
    rfl
  have HHS := Lib.hid hhs
  have HC1 := Lib.hid hc1
  clear hrn3 hgn3 hb3 HB2 hcc hhs h6 hc1 hgs
  obtain ⟨w5, hw5⟩ : ∃ W, W = w3.alloc (.cells #[.slice a3 2 c3] 24) := ⟨_, rfl⟩
  have hb5 : Below w3.heap.size w3 w5 := by rw [hw5]; exact (Below.refl _ _).alloc (Nat.le_refl _) _
  have HB5 := Lib.hid (HB3.out.trans (hb5.mono HB3.out.size))
  have HVN5 := Lib.hid (HVN.out.up (Keep.below hb5))
  have HV25 := Lib.hid (HV23.out.up (Keep.below hb5))
  have HH5 := Lib.hid (HHS.out.belowAll hb5)
  have H35 : Hid (Holds w5 w3.heap.size 24 [.slice a3 2 c3]) := by rw [hw5]; exact Holds.new w3 24 #[.slice a3 2 c3]
  go_wp2_with (fail)
  rw [← hw5]
  clear hw5 hb5 HVN HHS HV23
  generalize w3.heap.size = b3 at *
  refine (exploreFn (most := 1) HV25.out two_chk two_small (by omega) (by omega)).mono ?_
  rintro e w4 ⟨hb4, h4⟩
  rw [two_ex1] at h4
  subst h4
  have HB4 : Hid (Below w.heap.size w w4) := HB5.out.trans (hb4.mono HB5.out.size)
  obtain ⟨w6, hw6⟩ : ∃ W, W = w4.alloc (.cells #[.slice none 0 0] 24) := ⟨_, rfl⟩
  have hb6 : Below w4.heap.size w4 w6 := by rw [hw6]; exact (Below.refl _ _).alloc (Nat.le_refl _) _
  have hb56 : Below w5.heap.size w5 w6 := hb4.trans (hb6.mono hb4.size)
  have HB6 := Lib.hid (HB4.out.trans (hb6.mono HB4.out.size))
  have HVN6 := Lib.hid (HVN5.out.up (Keep.below hb56))
  have HH6 := Lib.hid (HH5.out.belowAll hb56)
  have H36 := Lib.hid (H35.out.belowAll hb56)
  have h63 := H36.out.cell 0
  simp only [List.getElem?_cons_zero] at h63
  have h61 := (HH6.out.cell (os + 1)).trans HC1.out
  go_wp2_with (fail)
  rw [← hw6]
  have hck : errC (chk twoN) = .int .i64 0 := by rw [two_chk]; rfl
  have hC := Lib.hid (fun (w' : World) (hb : Below w6.heap.size w6 w') => (show Below w6.heap.size w6 w' ∧ w'.cell? ⟨b3, 0, none⟩ = some (.slice a3 2 c3) ∧ w'.cell? ⟨gs, os + 1, none⟩ = some (.string ⟨#[1]⟩) from ⟨hb, (H36.out.belowAll hb).cell 0, ((HH6.out.belowAll hb).cell (os + 1)).trans HC1.out⟩))
  have hCt := Lib.hid (fun (wa wb : World) (hS : Below w6.heap.size w6 wa ∧ wa.cell? ⟨b3, 0, none⟩ = some (.slice a3 2 c3) ∧ wa.cell? ⟨gs, os + 1, none⟩ = some (.string ⟨#[1]⟩)) (hb : Below wa.heap.size wa wb) => hC.out wb (hS.1.trans (hb.mono hS.1.size)))
  clear hw6 hb6 hb56 hb4 HB4 H35 HH5 HVN5 HV25 HB5 HB3 HC1 h63 h61
  go_region_held3 (fun w' : World => Below w6.heap.size w6 w' ∧ w'.cell? ⟨b3, 0, none⟩ = some (.slice a3 2 c3) ∧ w'.cell? ⟨gs, os + 1, none⟩ = some (.string ⟨#[1]⟩)) (first | exact hC.out _ (Below.refl _ _).drew | exact hSt.out | exact hSn.out | exact hSc.out | exact hSz.out) (first
    | (go_at_call 28; refine (twoFn _).mono ?_; rintro e wt ⟨hbt, vt, rfl, hvt⟩; have hSt := Lib.hid (hCt.out _ _ (by assumption) hbt); have HVT := Lib.hid hvt; clear hbt hvt)
    | (go_at_call 18; refine (netsFn (HVN6.out.up (Keep.below (And.left (by assumption)))) HVT.out two_small).mono ?_; rintro e wn ⟨rfl, hbn⟩; have hSn := Lib.hid (hCt.out _ _ (by assumption) hbn); clear hbn)
    | (go_at_call 10; refine (checkFn HVT.out two_small).mono ?_; rintro e wc ⟨rfl, hbc⟩; rw [hck]; have hSc := Lib.hid (hCt.out _ _ (by assumption) hbc); clear hbc)
    | (go_at_call 29; refine (emptyFn _).mono ?_; rintro e wz ⟨rfl, hbz⟩; have hSz := Lib.hid (hCt.out _ _ (by assumption) hbz); clear hbz))
  all_goals (
    have HBZ : Hid (Below w.heap.size w wz) := HB6.out.trans (hSz.out.1.mono HB6.out.size)
    clear hC hCt
    go_wp2
    go_ret
    exact ⟨rfl, HBZ.out⟩)
end Go.Proofs.Ytcedenoicmpjmaa
