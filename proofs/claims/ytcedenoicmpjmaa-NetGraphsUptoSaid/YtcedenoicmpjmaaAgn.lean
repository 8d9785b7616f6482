/- The walk of NetAgain: a graph that is explored may be, and explored again it is the same. -/
import Derived.Test.YtcedenoicmpjmaaKnown
namespace Go.Proofs.Ytcedenoicmpjmaa
open Go.RowKit Go.Maps
set_option linter.unusedVariables false
set_option linter.unusedSimpArgs false

theorem stepA_goes {most : Nat} {st st1 : List Nat} {a b : PArc} (h : stepA most st a = some (st1, b)) : ∃ t, b = a.goes t := by
  unfold stepA at h
  split at h
  · split at h
    · injection h with h; injection h with _ h; exact ⟨_, h.symm⟩
    · split at h
      · cases h
      · injection h with h; injection h with _ h; exact ⟨_, h.symm⟩
  · injection h with h; injection h with _ h; exact ⟨_, h.symm⟩
theorem stepAs_goes {most : Nat} : ∀ {l : List PArc} {st st1 : List Nat} {bs : List PArc}, stepAs most st l = some (st1, bs) → ∀ b ∈ bs, ∃ a ∈ l, ∃ t, b = a.goes t
  | [], st, st1, bs, h, b, hb => by
    rw [stepAs] at h; injection h with h; injection h with _ h; subst h; cases hb
  | a :: l, st, st1, bs, h, b, hb => by
    rw [stepAs] at h
    split at h
    · cases h
    · rename_i st' b1 e1
      split at h
      · cases h
      · rename_i st2 bs2 e2
        injection h with h; injection h with _ h; subst h
        rcases List.mem_cons.1 hb with rfl | hb
        · obtain ⟨t, ht⟩ := stepA_goes e1
          exact ⟨a, by simp, t, ht⟩
        · obtain ⟨a', ha, t, ht⟩ := stepAs_goes e2 b hb
          exact ⟨a', by simp [ha], t, ht⟩
theorem exF_goes {N : PNet} {most : Nat} : ∀ {fu i : Nat} {st st1 : List Nat} {out : PNet}, exF N most fu i st = some (st1, out) → ∀ x ∈ out, ∀ b ∈ x.arcs, ∃ y ∈ N, ∃ a ∈ y.arcs, ∃ t, b = a.goes t
  | 0, i, st, st1, out, h => by rw [exF] at h; cases h
  | fu + 1, i, st, st1, out, h => by
    rw [exF] at h
    split at h
    · injection h with h; injection h with _ h; subst h
      intro x hx; cases hx
    · split at h
      · cases h
      · rename_i y hy
        split at h
        · cases h
        · rename_i st' bs h1
          split at h
          · cases h
          · rename_i st2 out2 h2
            injection h with h; injection h with _ h; subst h
            intro x hx b hb
            rcases List.mem_cons.1 hx with rfl | hx
            · obtain ⟨a, ha, t, ht⟩ := stepAs_goes h1 b hb
              exact ⟨y, List.mem_of_getElem? hy, a, ha, t, ht⟩
            · exact exF_goes h2 x hx b hb
theorem Small.mem {N : PNet} (h : Small N) {y : PNode} (hy : y ∈ N) {a : PArc} (ha : a ∈ y.arcs) : a.reads.length ≤ 2000000 ∧ a.writes.length ≤ 2000000 := by
  obtain ⟨i, hi, rfl⟩ := List.getElem_of_mem hy
  obtain ⟨j, hj, rfl⟩ := List.getElem_of_mem ha
  exact h.reads i hi j hj
theorem small_chk {g : PNet} (hc : chk g = true) (hr : ∀ x ∈ g, ∀ b ∈ x.arcs, b.reads.length ≤ 2000000 ∧ b.writes.length ≤ 2000000) : Small g := by
  unfold chk at hc
  simp only [Bool.and_eq_true, decide_eq_true_eq] at hc
  exact ⟨by omega, by omega, fun i hi j hj => hr _ (List.getElem_mem hi) _ (List.getElem_mem hj)⟩
set_option maxHeartbeats 4000000 in
set_option maxRecDepth 100000 in
theorem lawAgain {P : Nat → Prop} {w : World} {N : PNet} {v : Value} (hv : NetV P w v N) (hs : Small N) : Calls Try.prog 4 #[.agg #[v]] w (Yes w) := by
  obtain ⟨f, hr, hg⟩ := hv
  obtain ⟨a0, k0, rfl, _, _, _⟩ := hr.form
  obtain ⟨w0, hw0⟩ : ∃ W, W = w.alloc (.cells #[.slice a0 N.length k0] 24) := ⟨_, rfl⟩
  have hb0 : Below w.heap.size w w0 := by rw [hw0]; exact (Below.refl _ _).alloc (Nat.le_refl _) _
  have HB0 := Lib.hid hb0
  have HV0 := Lib.hid ((show NetV P w (.slice a0 N.length k0) N from ⟨f, hr, hg⟩).up (Keep.below hb0))
  have H1 : Hid (Holds w0 w.heap.size 24 [.slice a0 N.length k0]) := by rw [hw0]; exact Holds.new w 24 #[.slice a0 N.length k0]
  clear hr hg hb0
  go_enter Try.func4, Try.ntmps4
  go_wp2_with (fail)
  rw [← hw0]
  clear hw0
  generalize w.heap.size = b1 at H1 ⊢
  refine (ofFn HV0.out hs).mono ?_
  rintro e w2 ⟨hb2, h2⟩
  have HB2 : Hid (Below w.heap.size w w2) := HB0.out.trans (hb2.mono HB0.out.size)
  have H12 := Lib.hid (H1.out.belowAll hb2)
  by_cases hc : chk N = true
  · rw [if_pos hc] at h2
    obtain ⟨v2, rfl, hv2⟩ := h2
    obtain ⟨st, g, ex1, hlen, hle, hmet, hcg, ex2⟩ := again hc
    have hsg : Small g := small_chk hcg fun x hx b hb => by
      obtain ⟨y, hy, a, ha, t, rfl⟩ := exF_goes ex1 x hx b hb
      have h5 := hs.mem hy (a := a) ha
      exact h5
    have HSG := Lib.hid hsg
    have HCG := Lib.hid hcg
    have HPOS : Hid (1 ≤ g.length ∧ g.length ≤ 20000) := by
      have h3 := hcg
      unfold chk at h3
      simp only [Bool.and_eq_true, decide_eq_true_eq] at h3
      exact ⟨h3.1.1.1, h3.1.1.2⟩
    have HV2 := Lib.hid hv2
    have HE2 := Lib.hid ex2
    have HLE : Hid (g.length ≤ N.length) := by rw [← hlen]; exact hle
    have HLN := Lib.hid hlen
    have HEX := Lib.hid ex1
    clear hv2 hsg hcg ex1 ex2 hb2 hmet hle hlen HV0 H1 HB0
    go_wp2_with (fail)
    refine (exploreFn (most := 20000) HV2.out hc hs (by omega) (by omega)).mono ?_
    rintro e w3 ⟨hb3, h3⟩
    rw [HEX.out] at h3
    obtain ⟨vn, vs, rfl, hvn, hvs⟩ := h3
    rw [HLN.out] at hvs
    obtain ⟨fn3, hrn3, hgn3⟩ := hvn
    obtain ⟨a3, c3, rfl, _, _, _⟩ := hrn3.form
    obtain ⟨a4, c4, rfl, _, _, _⟩ := hvs.form
    have HVN := Lib.hid (show NetV (From w2.heap.size) w3 (.slice a3 g.length c3) g from ⟨fn3, hrn3, hgn3⟩)
    have HB3 : Hid (Below w.heap.size w w3) := HB2.out.trans (hb3.mono HB2.out.size)
    obtain ⟨w5, hw5⟩ : ∃ W, W = w3.alloc (.cells #[.slice a3 g.length c3] 24) := ⟨_, rfl⟩
    have hb5 : Below w3.heap.size w3 w5 := by rw [hw5]; exact (Below.refl _ _).alloc (Nat.le_refl _) _
    have HB5 := Lib.hid (HB3.out.trans (hb5.mono HB3.out.size))
    have HVG5 := Lib.hid (HVN.out.up (Keep.below hb5))
    have H55 : Hid (Holds w5 w3.heap.size 24 [.slice a3 g.length c3]) := by rw [hw5]; exact Holds.new w3 24 #[.slice a3 g.length c3]
    have h15 := ((H12.out.belowAll hb3).belowAll hb5).cell 0
    have h55 := H55.out.cell 0
    simp only [List.getElem?_cons_zero] at h15 h55
    have d1 : decide (N.length < g.length) = false := decide_eq_false (by have := HLE.out; omega)
    rw [hw5] at h15 h55
    rw [HLN.out] at HE2
    clear hrn3 hgn3 hvs hb3 HB2 HB3 H12 HVN HLN HEX HLE hb5
    go_wp2_with (fail)
    rw [← hw5]
    clear hw5 h15 h55
    generalize w3.heap.size = b5 at *
    refine (checkFn HVG5.out HSG.out).mono ?_
    rintro e w6 ⟨rfl, hb6⟩
    rw [show errC (chk g) = .int .i64 0 by rw [HCG.out]; rfl]
    have HB6 : Hid (Below w.heap.size w w6) := HB5.out.trans (hb6.mono HB5.out.size)
    have HVG6 := Lib.hid (HVG5.out.up (Keep.below hb6))
    have H56 := Lib.hid (H55.out.belowAll hb6)
    have h56 := H56.out.cell 0
    simp only [List.getElem?_cons_zero] at h56
    clear hb6 HB5 HVG5 H55
    go_wp2_with (fail)
    refine (ofFn HVG6.out HSG.out).mono ?_
    rintro e w7 ⟨hb7, h7⟩
    rw [if_pos HCG.out] at h7
    obtain ⟨v7, rfl, hv7⟩ := h7
    have HB7 : Hid (Below w.heap.size w w7) := HB6.out.trans (hb7.mono HB6.out.size)
    have HVG7 := Lib.hid (HVG6.out.up (Keep.below hb7))
    have H57 := Lib.hid (H56.out.belowAll hb7)
    have HV7 := Lib.hid hv7
    clear hb7 hv7 h56 H56 HVG6 HB6
    go_wp2_with (fail)
    refine (exploreFn (most := g.length) HV7.out HCG.out HSG.out HPOS.out.1 HPOS.out.2).mono ?_
    rintro e w8 ⟨hb8, h8⟩
    rw [HE2.out] at h8
    obtain ⟨vn, vs, rfl, hvn, hvs⟩ := h8
    rw [List.length_range] at hvs
    obtain ⟨fn8, hrn8, hgn8⟩ := hvn
    obtain ⟨a8, c8, rfl, _, _, _⟩ := hrn8.form
    obtain ⟨a9, c9, rfl, _, _, _⟩ := hvs.form
    have HVN := Lib.hid (show NetV (From w7.heap.size) w8 (.slice a8 g.length c8) g from ⟨fn8, hrn8, hgn8⟩)
    have HB8 : Hid (Below w.heap.size w w8) := HB7.out.trans (hb8.mono HB7.out.size)
    obtain ⟨w9, hw9⟩ : ∃ W, W = w8.alloc (.cells #[.slice a8 g.length c8] 24) := ⟨_, rfl⟩
    have hb9 : Below w8.heap.size w8 w9 := by rw [hw9]; exact (Below.refl _ _).alloc (Nat.le_refl _) _
    have hb79 : Below w7.heap.size w7 w9 := hb8.trans (hb9.mono hb8.size)
    have HB9 := Lib.hid (HB8.out.trans (hb9.mono HB8.out.size))
    have HVN9 := Lib.hid (HVN.out.up (Keep.below hb9))
    have HVG9 := Lib.hid (HVG7.out.up (Keep.below hb79))
    have h99 := (show Holds w9 w8.heap.size 24 [.slice a8 g.length c8] by rw [hw9]; exact Holds.new w8 24 #[.slice a8 g.length c8]).cell 0
    have h59 := (H57.out.belowAll hb79).cell 0
    simp only [List.getElem?_cons_zero] at h99 h59
    rw [hw9] at h99 h59
    clear hrn8 hgn8 hvs hb8 HB7 HB8 HVN hb9 hb79 H57 HVG7
    go_wp2_with (fail)
    rw [← hw9]
    clear hw9 h99 h59
    refine (netsFn HVN9.out HVG9.out HSG.out).mono ?_
    rintro e w10 ⟨rfl, hb10⟩
    have HB10 : Hid (Below w.heap.size w w10) := HB9.out.trans (hb10.mono HB9.out.size)
    clear hb10
    go_wp2_with (fail)
    refine (knownFn _).mono ?_
    rintro e w11 ⟨rfl, hb11⟩
    have HB11 : Hid (Below w.heap.size w w11) := HB10.out.trans (hb11.mono HB10.out.size)
    clear hb11
    go_wp2
    go_ret
    exact ⟨rfl, HB11.out⟩
  · have hcf : chk N = false := by simpa using hc
    rw [hcf] at h2
    simp only [Bool.false_eq_true, if_false] at h2
    subst h2
    clear hc hb2
    go_wp2_with (fail)
    refine (knownFn _).mono ?_
    rintro e w3 ⟨rfl, hb3⟩
    have HB3 : Hid (Below w.heap.size w w3) := HB2.out.trans (hb3.mono HB2.out.size)
    clear hb3
    go_wp2
    go_ret
    exact ⟨rfl, HB3.out⟩
end Go.Proofs.Ytcedenoicmpjmaa
