/- The walk of GeneralAccepts. -/
import Derived.Test.YtelanndleinabaaDoorRAcc
namespace Go.Proofs.YtelanndleinabaaDoor
open Go.RowKit
set_option linter.unusedVariables false

set_option maxHeartbeats 4000000 in
set_option maxRecDepth 100000 in
theorem lawAccepts (g : Gen) (l : Las) (vg vl : Value) (w : World) (hg : GenAt w.heap.size w vg g) (hl : LasAt w.heap.size w vl l) (hb : (g.states.map List.length).sum ≤ 2000000) (hb1 : g.states.length ≤ 2000000) (hb2 : l.pre.length + l.loop.length ≤ 4000000) :
    Calls Tryd.prog 3 #[vg, vl] w fun e w' => e = .returned (.bool true) ∧ Below w.heap.size w w' := by
  have HG := Lib.hid hg
  have HL := Lib.hid hl
  obtain ⟨va, vb, rfl, hs, ha, hbb⟩ := hg
  obtain ⟨a1, cap1, rfl, hc1, hm1⟩ := ha.form
  obtain ⟨a2, cap2, rfl, hc2, hm2⟩ := hbb.form
  obtain ⟨vp, vq, rfl, hp, hq⟩ := hl
  obtain ⟨a3, cap3, rfl, hc3, hm3⟩ := hp.form
  obtain ⟨a4, cap4, rfl, hc4, hm4⟩ := hq.form
  obtain ⟨n, hne⟩ : ∃ n, g.states.length = n := ⟨_, rfl⟩
  obtain ⟨il, hile⟩ : ∃ il, g.init.length = il := ⟨_, rfl⟩
  obtain ⟨p1, hp1⟩ : ∃ p1, l.pre.length = p1 := ⟨_, rfl⟩
  obtain ⟨p2, hp2⟩ : ∃ p2, l.loop.length = p2 := ⟨_, rfl⟩
  obtain ⟨S, hS⟩ : ∃ S, g.sets = S := ⟨_, rfl⟩
  rw [hne, hile, hS] at HG
  rw [hp1, hp2] at HL
  rw [hp1, hp2, hne, hile, hS]
  have hsum : (g.states.map List.length).sum ≤ 4000000 := by omega
  have hgn : genN g ≤ 4000000 := by unfold genN; omega
  have hB0 : Below w.heap.size w ((w.alloc (.cells #[.int .i64 S, .slice a1 il cap1, .slice a2 n cap2] 25)).alloc (.cells #[.slice a3 p1 cap3, .slice a4 p2 cap4] 28)) := ((Below.refl _ _).alloc (Nat.le_refl _) _).alloc (by simp) _
  have hG0 : Holds ((w.alloc (.cells #[.int .i64 S, .slice a1 il cap1, .slice a2 n cap2] 25)).alloc (.cells #[.slice a3 p1 cap3, .slice a4 p2 cap4] 28)) w.heap.size 25 [.int .i64 S, .slice a1 il cap1, .slice a2 n cap2] := (Holds.new w 25 #[.int .i64 S, .slice a1 il cap1, .slice a2 n cap2]).alloc _
  have hL0 : Holds ((w.alloc (.cells #[.int .i64 S, .slice a1 il cap1, .slice a2 n cap2] 25)).alloc (.cells #[.slice a3 p1 cap3, .slice a4 p2 cap4] 28)) (w.heap.size + 1) 28 [.slice a3 p1 cap3, .slice a4 p2 cap4] := holds_at (k := w.heap.size + 1) (by simp) 28 #[.slice a3 p1 cap3, .slice a4 p2 cap4]
  have c0 := hG0.cell 0
  have c1 := hG0.cell 1
  have c2 := hG0.cell 2
  simp only [List.getElem?_cons_zero, List.getElem?_cons_succ] at c0 c1 c2
  have HB0 := Lib.hid hB0
  have HG0 := Lib.hid hG0
  have HL0 := Lib.hid hL0
  have HGc := Lib.hid hG0
  have HLc := Lib.hid hL0
  have HBc := Lib.hid hB0
  clear hB0 hG0 hL0 HB0 HG0 HL0 hs ha hbb hp hq hne hile hp1 hp2 hS
  obtain ⟨C, hC⟩ : ∃ C, genCode g = C := ⟨_, rfl⟩
  obtain ⟨K, hK⟩ : ∃ K, lasCode l = K := ⟨_, rfl⟩
  obtain ⟨T, hT⟩ : ∃ T, littleB g l = T := ⟨_, rfl⟩
  have hok0 : genOk g = true → C = 0 := fun h => by rw [← hC]; exact if_pos h
  by_cases hC0 : C = 0
  · by_cases hK0 : K = 0
    · cases T with
      | true =>
        have hlit : genOk g = true → lasCode l = 0 → littleB g l = true := fun _ _ => hT
        have f1 : ((C : Int) == 0) = true := by simp [hC0]
        have f2 : ((K : Int) == 0) = true := by simp [hK0]
        clear hC0 hK0 hok0
        go_enter Tryd.func3, Tryd.ntmps3
        go_wp2_with (first
          | (go_at_call 8; refine (refCheck g _ _ (HG.out.step HBc.out) hsum).mono ?_; rintro e wc ⟨rfl, hb'⟩; rw [hC]; have HGc := Lib.hid (HGc.out.belowAll hb'); have HLc := Lib.hid (HLc.out.belowAll hb'); have HBc := Lib.hid (HBc.out.trans (hb'.mono HBc.out.size)); have d0 := HGc.out.cell 0; have d1 := HGc.out.cell 1; have d2 := HGc.out.cell 2; have d3 := HLc.out.cell 0; have d4 := HLc.out.cell 1; simp only [List.getElem?_cons_zero, List.getElem?_cons_succ] at d0 d1 d2 d3 d4; clear hb')
          | (go_at_call 9; refine (genCheck g _ _ (HG.out.step HBc.out) hsum).mono ?_; rintro e wc ⟨rfl, hb'⟩; rw [hC]; have HGc := Lib.hid (HGc.out.belowAll hb'); have HLc := Lib.hid (HLc.out.belowAll hb'); have HBc := Lib.hid (HBc.out.trans (hb'.mono HBc.out.size)); have d0 := HGc.out.cell 0; have d1 := HGc.out.cell 1; have d2 := HGc.out.cell 2; have d3 := HLc.out.cell 0; have d4 := HLc.out.cell 1; simp only [List.getElem?_cons_zero, List.getElem?_cons_succ] at d0 d1 d2 d3 d4; clear hb')
          | (go_at_call 10; refine (refLassoCheck l _ _ (HL.out.step HBc.out) hb2).mono ?_; rintro e wc ⟨rfl, hb'⟩; rw [hK]; have HGc := Lib.hid (HGc.out.belowAll hb'); have HLc := Lib.hid (HLc.out.belowAll hb'); have HBc := Lib.hid (HBc.out.trans (hb'.mono HBc.out.size)); have d0 := HGc.out.cell 0; have d1 := HGc.out.cell 1; have d2 := HGc.out.cell 2; have d3 := HLc.out.cell 0; have d4 := HLc.out.cell 1; simp only [List.getElem?_cons_zero, List.getElem?_cons_succ] at d0 d1 d2 d3 d4; clear hb')
          | (go_at_call 11; refine (littleFn g l _ _ _ (HG.out.step HBc.out) (HL.out.step HBc.out) hgn hb2).mono ?_; rintro e wc ⟨rfl, hb'⟩; rw [hT]; have HGc := Lib.hid (HGc.out.belowAll hb'); have HLc := Lib.hid (HLc.out.belowAll hb'); have HBc := Lib.hid (HBc.out.trans (hb'.mono HBc.out.size)); have d0 := HGc.out.cell 0; have d1 := HGc.out.cell 1; have d2 := HGc.out.cell 2; have d3 := HLc.out.cell 0; have d4 := HLc.out.cell 1; simp only [List.getElem?_cons_zero, List.getElem?_cons_succ] at d0 d1 d2 d3 d4; clear hb')
          | (go_at_call 12; refine (knownFn _).mono ?_; rintro e wc ⟨rfl, hb'⟩; have HGc := Lib.hid (HGc.out.belowAll hb'); have HLc := Lib.hid (HLc.out.belowAll hb'); have HBc := Lib.hid (HBc.out.trans (hb'.mono HBc.out.size)); have d0 := HGc.out.cell 0; have d1 := HGc.out.cell 1; have d2 := HGc.out.cell 2; have d3 := HLc.out.cell 0; have d4 := HLc.out.cell 1; simp only [List.getElem?_cons_zero, List.getElem?_cons_succ] at d0 d1 d2 d3 d4; clear hb')
          | (go_at_call 13; refine (refAccepts g l _ _ _ (HG.out.step HBc.out) (HL.out.step HBc.out) hsum hb2 hlit).mono ?_; rintro e wc ⟨b1, rfl, hp1, hb'⟩; have HGc := Lib.hid (HGc.out.belowAll hb'); have HLc := Lib.hid (HLc.out.belowAll hb'); have HBc := Lib.hid (HBc.out.trans (hb'.mono HBc.out.size)); have d0 := HGc.out.cell 0; have d1 := HGc.out.cell 1; have d2 := HGc.out.cell 2; have d3 := HLc.out.cell 0; have d4 := HLc.out.cell 1; simp only [List.getElem?_cons_zero, List.getElem?_cons_succ] at d0 d1 d2 d3 d4; clear hb')
          | (go_at_call 14; refine (genAccepts g l _ _ _ (HG.out.step HBc.out) (HL.out.step HBc.out) hsum hb2).mono ?_; rintro e wc ⟨b2, rfl, hp2, hb'⟩; obtain rfl : b2 = b1 := Bool.eq_iff_iff.2 (hp2.trans hp1.symm); have HGc := Lib.hid (HGc.out.belowAll hb'); have HLc := Lib.hid (HLc.out.belowAll hb'); have HBc := Lib.hid (HBc.out.trans (hb'.mono HBc.out.size)); have d0 := HGc.out.cell 0; have d1 := HGc.out.cell 1; have d2 := HGc.out.cell 2; have d3 := HLc.out.cell 0; have d4 := HLc.out.cell 1; simp only [List.getElem?_cons_zero, List.getElem?_cons_succ] at d0 d1 d2 d3 d4; clear hb'))
        go_ret
        exact ⟨rfl, HBc.out⟩
      | false =>
        have f1 : ((C : Int) == 0) = true := by simp [hC0]
        have f2 : ((K : Int) == 0) = true := by simp [hK0]
        clear hC0 hK0 hok0
        go_enter Tryd.func3, Tryd.ntmps3
        go_wp2_with (first
          | (go_at_call 8; refine (refCheck g _ _ (HG.out.step HBc.out) hsum).mono ?_; rintro e wc ⟨rfl, hb'⟩; rw [hC]; have HGc := Lib.hid (HGc.out.belowAll hb'); have HLc := Lib.hid (HLc.out.belowAll hb'); have HBc := Lib.hid (HBc.out.trans (hb'.mono HBc.out.size)); have d0 := HGc.out.cell 0; have d1 := HGc.out.cell 1; have d2 := HGc.out.cell 2; have d3 := HLc.out.cell 0; have d4 := HLc.out.cell 1; simp only [List.getElem?_cons_zero, List.getElem?_cons_succ] at d0 d1 d2 d3 d4; clear hb')
          | (go_at_call 9; refine (genCheck g _ _ (HG.out.step HBc.out) hsum).mono ?_; rintro e wc ⟨rfl, hb'⟩; rw [hC]; have HGc := Lib.hid (HGc.out.belowAll hb'); have HLc := Lib.hid (HLc.out.belowAll hb'); have HBc := Lib.hid (HBc.out.trans (hb'.mono HBc.out.size)); have d0 := HGc.out.cell 0; have d1 := HGc.out.cell 1; have d2 := HGc.out.cell 2; have d3 := HLc.out.cell 0; have d4 := HLc.out.cell 1; simp only [List.getElem?_cons_zero, List.getElem?_cons_succ] at d0 d1 d2 d3 d4; clear hb')
          | (go_at_call 10; refine (refLassoCheck l _ _ (HL.out.step HBc.out) hb2).mono ?_; rintro e wc ⟨rfl, hb'⟩; rw [hK]; have HGc := Lib.hid (HGc.out.belowAll hb'); have HLc := Lib.hid (HLc.out.belowAll hb'); have HBc := Lib.hid (HBc.out.trans (hb'.mono HBc.out.size)); have d0 := HGc.out.cell 0; have d1 := HGc.out.cell 1; have d2 := HGc.out.cell 2; have d3 := HLc.out.cell 0; have d4 := HLc.out.cell 1; simp only [List.getElem?_cons_zero, List.getElem?_cons_succ] at d0 d1 d2 d3 d4; clear hb')
          | (go_at_call 11; refine (littleFn g l _ _ _ (HG.out.step HBc.out) (HL.out.step HBc.out) hgn hb2).mono ?_; rintro e wc ⟨rfl, hb'⟩; rw [hT]; have HGc := Lib.hid (HGc.out.belowAll hb'); have HLc := Lib.hid (HLc.out.belowAll hb'); have HBc := Lib.hid (HBc.out.trans (hb'.mono HBc.out.size)); have d0 := HGc.out.cell 0; have d1 := HGc.out.cell 1; have d2 := HGc.out.cell 2; have d3 := HLc.out.cell 0; have d4 := HLc.out.cell 1; simp only [List.getElem?_cons_zero, List.getElem?_cons_succ] at d0 d1 d2 d3 d4; clear hb')
          | (go_at_call 12; refine (knownFn _).mono ?_; rintro e wc ⟨rfl, hb'⟩; have HGc := Lib.hid (HGc.out.belowAll hb'); have HLc := Lib.hid (HLc.out.belowAll hb'); have HBc := Lib.hid (HBc.out.trans (hb'.mono HBc.out.size)); have d0 := HGc.out.cell 0; have d1 := HGc.out.cell 1; have d2 := HGc.out.cell 2; have d3 := HLc.out.cell 0; have d4 := HLc.out.cell 1; simp only [List.getElem?_cons_zero, List.getElem?_cons_succ] at d0 d1 d2 d3 d4; clear hb')
          | (go_at_call 13; refine (refAccepts g l _ _ _ (HG.out.step HBc.out) (HL.out.step HBc.out) hsum hb2 hlit).mono ?_; rintro e wc ⟨b1, rfl, hp1, hb'⟩; have HGc := Lib.hid (HGc.out.belowAll hb'); have HLc := Lib.hid (HLc.out.belowAll hb'); have HBc := Lib.hid (HBc.out.trans (hb'.mono HBc.out.size)); have d0 := HGc.out.cell 0; have d1 := HGc.out.cell 1; have d2 := HGc.out.cell 2; have d3 := HLc.out.cell 0; have d4 := HLc.out.cell 1; simp only [List.getElem?_cons_zero, List.getElem?_cons_succ] at d0 d1 d2 d3 d4; clear hb')
          | (go_at_call 14; refine (genAccepts g l _ _ _ (HG.out.step HBc.out) (HL.out.step HBc.out) hsum hb2).mono ?_; rintro e wc ⟨b2, rfl, hp2, hb'⟩; obtain rfl : b2 = b1 := Bool.eq_iff_iff.2 (hp2.trans hp1.symm); have HGc := Lib.hid (HGc.out.belowAll hb'); have HLc := Lib.hid (HLc.out.belowAll hb'); have HBc := Lib.hid (HBc.out.trans (hb'.mono HBc.out.size)); have d0 := HGc.out.cell 0; have d1 := HGc.out.cell 1; have d2 := HGc.out.cell 2; have d3 := HLc.out.cell 0; have d4 := HLc.out.cell 1; simp only [List.getElem?_cons_zero, List.getElem?_cons_succ] at d0 d1 d2 d3 d4; clear hb'))
        go_ret
        exact ⟨rfl, HBc.out⟩
    · have hlit : genOk g = true → lasCode l = 0 → littleB g l = true := fun _ h => absurd (hK.symm.trans h) hK0
      have f1 : ((C : Int) == 0) = true := by simp [hC0]
      have f2 : ((K : Int) == 0) = false := by simp; exact hK0
      clear hC0 hK0 hok0
      go_enter Tryd.func3, Tryd.ntmps3
      go_wp2_with (first
          | (go_at_call 8; refine (refCheck g _ _ (HG.out.step HBc.out) hsum).mono ?_; rintro e wc ⟨rfl, hb'⟩; rw [hC]; have HGc := Lib.hid (HGc.out.belowAll hb'); have HLc := Lib.hid (HLc.out.belowAll hb'); have HBc := Lib.hid (HBc.out.trans (hb'.mono HBc.out.size)); have d0 := HGc.out.cell 0; have d1 := HGc.out.cell 1; have d2 := HGc.out.cell 2; have d3 := HLc.out.cell 0; have d4 := HLc.out.cell 1; simp only [List.getElem?_cons_zero, List.getElem?_cons_succ] at d0 d1 d2 d3 d4; clear hb')
          | (go_at_call 9; refine (genCheck g _ _ (HG.out.step HBc.out) hsum).mono ?_; rintro e wc ⟨rfl, hb'⟩; rw [hC]; have HGc := Lib.hid (HGc.out.belowAll hb'); have HLc := Lib.hid (HLc.out.belowAll hb'); have HBc := Lib.hid (HBc.out.trans (hb'.mono HBc.out.size)); have d0 := HGc.out.cell 0; have d1 := HGc.out.cell 1; have d2 := HGc.out.cell 2; have d3 := HLc.out.cell 0; have d4 := HLc.out.cell 1; simp only [List.getElem?_cons_zero, List.getElem?_cons_succ] at d0 d1 d2 d3 d4; clear hb')
          | (go_at_call 10; refine (refLassoCheck l _ _ (HL.out.step HBc.out) hb2).mono ?_; rintro e wc ⟨rfl, hb'⟩; rw [hK]; have HGc := Lib.hid (HGc.out.belowAll hb'); have HLc := Lib.hid (HLc.out.belowAll hb'); have HBc := Lib.hid (HBc.out.trans (hb'.mono HBc.out.size)); have d0 := HGc.out.cell 0; have d1 := HGc.out.cell 1; have d2 := HGc.out.cell 2; have d3 := HLc.out.cell 0; have d4 := HLc.out.cell 1; simp only [List.getElem?_cons_zero, List.getElem?_cons_succ] at d0 d1 d2 d3 d4; clear hb')
          | (go_at_call 11; refine (littleFn g l _ _ _ (HG.out.step HBc.out) (HL.out.step HBc.out) hgn hb2).mono ?_; rintro e wc ⟨rfl, hb'⟩; rw [hT]; have HGc := Lib.hid (HGc.out.belowAll hb'); have HLc := Lib.hid (HLc.out.belowAll hb'); have HBc := Lib.hid (HBc.out.trans (hb'.mono HBc.out.size)); have d0 := HGc.out.cell 0; have d1 := HGc.out.cell 1; have d2 := HGc.out.cell 2; have d3 := HLc.out.cell 0; have d4 := HLc.out.cell 1; simp only [List.getElem?_cons_zero, List.getElem?_cons_succ] at d0 d1 d2 d3 d4; clear hb')
          | (go_at_call 12; refine (knownFn _).mono ?_; rintro e wc ⟨rfl, hb'⟩; have HGc := Lib.hid (HGc.out.belowAll hb'); have HLc := Lib.hid (HLc.out.belowAll hb'); have HBc := Lib.hid (HBc.out.trans (hb'.mono HBc.out.size)); have d0 := HGc.out.cell 0; have d1 := HGc.out.cell 1; have d2 := HGc.out.cell 2; have d3 := HLc.out.cell 0; have d4 := HLc.out.cell 1; simp only [List.getElem?_cons_zero, List.getElem?_cons_succ] at d0 d1 d2 d3 d4; clear hb')
          | (go_at_call 13; refine (refAccepts g l _ _ _ (HG.out.step HBc.out) (HL.out.step HBc.out) hsum hb2 hlit).mono ?_; rintro e wc ⟨b1, rfl, hp1, hb'⟩; have HGc := Lib.hid (HGc.out.belowAll hb'); have HLc := Lib.hid (HLc.out.belowAll hb'); have HBc := Lib.hid (HBc.out.trans (hb'.mono HBc.out.size)); have d0 := HGc.out.cell 0; have d1 := HGc.out.cell 1; have d2 := HGc.out.cell 2; have d3 := HLc.out.cell 0; have d4 := HLc.out.cell 1; simp only [List.getElem?_cons_zero, List.getElem?_cons_succ] at d0 d1 d2 d3 d4; clear hb')
          | (go_at_call 14; refine (genAccepts g l _ _ _ (HG.out.step HBc.out) (HL.out.step HBc.out) hsum hb2).mono ?_; rintro e wc ⟨b2, rfl, hp2, hb'⟩; obtain rfl : b2 = b1 := Bool.eq_iff_iff.2 (hp2.trans hp1.symm); have HGc := Lib.hid (HGc.out.belowAll hb'); have HLc := Lib.hid (HLc.out.belowAll hb'); have HBc := Lib.hid (HBc.out.trans (hb'.mono HBc.out.size)); have d0 := HGc.out.cell 0; have d1 := HGc.out.cell 1; have d2 := HGc.out.cell 2; have d3 := HLc.out.cell 0; have d4 := HLc.out.cell 1; simp only [List.getElem?_cons_zero, List.getElem?_cons_succ] at d0 d1 d2 d3 d4; clear hb'))
      go_ret
      exact ⟨rfl, HBc.out⟩
  · have hlit : genOk g = true → lasCode l = 0 → littleB g l = true := fun h _ => absurd (hok0 h) hC0
    have f1 : ((C : Int) == 0) = false := by simp; exact hC0
    clear hC0 hok0
    go_enter Tryd.func3, Tryd.ntmps3
    go_wp2_with (first
          | (go_at_call 8; refine (refCheck g _ _ (HG.out.step HBc.out) hsum).mono ?_; rintro e wc ⟨rfl, hb'⟩; rw [hC]; have HGc := Lib.hid (HGc.out.belowAll hb'); have HLc := Lib.hid (HLc.out.belowAll hb'); have HBc := Lib.hid (HBc.out.trans (hb'.mono HBc.out.size)); have d0 := HGc.out.cell 0; have d1 := HGc.out.cell 1; have d2 := HGc.out.cell 2; have d3 := HLc.out.cell 0; have d4 := HLc.out.cell 1; simp only [List.getElem?_cons_zero, List.getElem?_cons_succ] at d0 d1 d2 d3 d4; clear hb')
          | (go_at_call 9; refine (genCheck g _ _ (HG.out.step HBc.out) hsum).mono ?_; rintro e wc ⟨rfl, hb'⟩; rw [hC]; have HGc := Lib.hid (HGc.out.belowAll hb'); have HLc := Lib.hid (HLc.out.belowAll hb'); have HBc := Lib.hid (HBc.out.trans (hb'.mono HBc.out.size)); have d0 := HGc.out.cell 0; have d1 := HGc.out.cell 1; have d2 := HGc.out.cell 2; have d3 := HLc.out.cell 0; have d4 := HLc.out.cell 1; simp only [List.getElem?_cons_zero, List.getElem?_cons_succ] at d0 d1 d2 d3 d4; clear hb')
          | (go_at_call 10; refine (refLassoCheck l _ _ (HL.out.step HBc.out) hb2).mono ?_; rintro e wc ⟨rfl, hb'⟩; rw [hK]; have HGc := Lib.hid (HGc.out.belowAll hb'); have HLc := Lib.hid (HLc.out.belowAll hb'); have HBc := Lib.hid (HBc.out.trans (hb'.mono HBc.out.size)); have d0 := HGc.out.cell 0; have d1 := HGc.out.cell 1; have d2 := HGc.out.cell 2; have d3 := HLc.out.cell 0; have d4 := HLc.out.cell 1; simp only [List.getElem?_cons_zero, List.getElem?_cons_succ] at d0 d1 d2 d3 d4; clear hb')
          | (go_at_call 11; refine (littleFn g l _ _ _ (HG.out.step HBc.out) (HL.out.step HBc.out) hgn hb2).mono ?_; rintro e wc ⟨rfl, hb'⟩; rw [hT]; have HGc := Lib.hid (HGc.out.belowAll hb'); have HLc := Lib.hid (HLc.out.belowAll hb'); have HBc := Lib.hid (HBc.out.trans (hb'.mono HBc.out.size)); have d0 := HGc.out.cell 0; have d1 := HGc.out.cell 1; have d2 := HGc.out.cell 2; have d3 := HLc.out.cell 0; have d4 := HLc.out.cell 1; simp only [List.getElem?_cons_zero, List.getElem?_cons_succ] at d0 d1 d2 d3 d4; clear hb')
          | (go_at_call 12; refine (knownFn _).mono ?_; rintro e wc ⟨rfl, hb'⟩; have HGc := Lib.hid (HGc.out.belowAll hb'); have HLc := Lib.hid (HLc.out.belowAll hb'); have HBc := Lib.hid (HBc.out.trans (hb'.mono HBc.out.size)); have d0 := HGc.out.cell 0; have d1 := HGc.out.cell 1; have d2 := HGc.out.cell 2; have d3 := HLc.out.cell 0; have d4 := HLc.out.cell 1; simp only [List.getElem?_cons_zero, List.getElem?_cons_succ] at d0 d1 d2 d3 d4; clear hb')
          | (go_at_call 13; refine (refAccepts g l _ _ _ (HG.out.step HBc.out) (HL.out.step HBc.out) hsum hb2 hlit).mono ?_; rintro e wc ⟨b1, rfl, hp1, hb'⟩; have HGc := Lib.hid (HGc.out.belowAll hb'); have HLc := Lib.hid (HLc.out.belowAll hb'); have HBc := Lib.hid (HBc.out.trans (hb'.mono HBc.out.size)); have d0 := HGc.out.cell 0; have d1 := HGc.out.cell 1; have d2 := HGc.out.cell 2; have d3 := HLc.out.cell 0; have d4 := HLc.out.cell 1; simp only [List.getElem?_cons_zero, List.getElem?_cons_succ] at d0 d1 d2 d3 d4; clear hb')
          | (go_at_call 14; refine (genAccepts g l _ _ _ (HG.out.step HBc.out) (HL.out.step HBc.out) hsum hb2).mono ?_; rintro e wc ⟨b2, rfl, hp2, hb'⟩; obtain rfl : b2 = b1 := Bool.eq_iff_iff.2 (hp2.trans hp1.symm); have HGc := Lib.hid (HGc.out.belowAll hb'); have HLc := Lib.hid (HLc.out.belowAll hb'); have HBc := Lib.hid (HBc.out.trans (hb'.mono HBc.out.size)); have d0 := HGc.out.cell 0; have d1 := HGc.out.cell 1; have d2 := HGc.out.cell 2; have d3 := HLc.out.cell 0; have d4 := HLc.out.cell 1; simp only [List.getElem?_cons_zero, List.getElem?_cons_succ] at d0 d1 d2 d3 d4; clear hb'))
    go_ret
    exact ⟨rfl, HBc.out⟩
end Go.Proofs.YtelanndleinabaaDoor
