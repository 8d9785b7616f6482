/- The walk of the reference's Accepts. -/
import Derived.Test.YtelanndleinabaaDoorRAccS
import Derived.Test.YtelanndleinabaaDoorKnown
import Derived.Deep.CutRange
import Derived.Deep.RegionHeld3
namespace Go.Proofs.YtelanndleinabaaDoor
open Go.RowKit
set_option linter.unusedVariables false

theorem LasAt.step {l : Las} {v : Value} {w w' : World} (h : LasAt w.heap.size w v l) (hb : Below w.heap.size w w') : LasAt w'.heap.size w' v l := by
  obtain ⟨a, b, rfl, h1, h2⟩ := h
  exact ⟨a, b, rfl, (h1.below hb).mono hb.size, (h2.below hb).mono hb.size⟩
theorem Below.drewN {B : Nat} {w w' : World} (h : Below B w w') (n : Nat) : Below B w (w'.drewN n) := ⟨h.os, h.tape, h.output, h.size, h.block⟩
set_option maxHeartbeats 4000000 in
set_option maxRecDepth 100000 in
theorem refAccepts (g : Gen) (l : Las) (vg vl : Value) (w : World) (hg : GenAt w.heap.size w vg g) (hl : LasAt w.heap.size w vl l) (hb : (g.states.map List.length).sum ≤ 4000000) (hb2 : l.pre.length + l.loop.length ≤ 4000000) (hlit : genOk g = true → lasCode l = 0 → littleB g l = true) :
    Calls Tryd.prog 13 #[vg, vl] w fun e w' => AccOut (accCode g l) g l w e w' := by
  have HG := Lib.hid hg
  have HL := Lib.hid hl
  obtain ⟨va, vb, rfl, hs, ha, hbb⟩ := hg
  obtain ⟨a1, cap1, rfl, hc1, hm1⟩ := ha.form
  obtain ⟨a2, cap2, rfl, hc2, hm2⟩ := hbb.form
  obtain ⟨vp, vq, rfl, hp, hq⟩ := hl
  obtain ⟨a3, cap3, rfl, hc3, hm3⟩ := hp.form
  obtain ⟨a4, cap4, rfl, hc4, hm4⟩ := hq.form
  obtain ⟨n, hne⟩ : ∃ n, g.states.length = n := ⟨_, rfl⟩
  obtain ⟨il, hile⟩ : ∃ il, g.init.length = il := ⟨_, rfl⟩
  obtain ⟨p1, hp1⟩ : ∃ p1, l.pre.length = p1 := ⟨_, rfl⟩
  obtain ⟨p2, hp2⟩ : ∃ p2, l.loop.length = p2 := ⟨_, rfl⟩
  obtain ⟨S, hS⟩ : ∃ S, g.sets = S := ⟨_, rfl⟩
  have hwf : Hid (∀ ms ∈ g.states, ∀ m ∈ ms, m.sets < 18446744073709551616) := fun ms h m hm => by
    obtain ⟨us, _, h2⟩ := hbb
    obtain ⟨i, hi, rfl⟩ := List.getElem_of_mem h
    obtain ⟨u, _, hu⟩ := h2 i hi
    exact (hu.2 m hm).2.2.2
  have HA := Lib.hid ha
  rw [hile] at HA
  rw [hne, hile, hS] at HG
  rw [hp1, hp2] at HL
  rw [hne] at hc2
  rw [hp1] at hc3
  rw [hp2] at hc4
  rw [hile] at hc1
  rw [hp1, hp2, hne, hile, hS]
  have HNE := Lib.hid hne
  have HP1 := Lib.hid hp1
  have HP2 := Lib.hid hp2
  have HIL := Lib.hid hile
  have HSE := Lib.hid hS
  have HLIT := Lib.hid hlit
  have hB0 : Below w.heap.size w ((w.alloc (.cells #[.int .i64 S, .slice a1 il cap1, .slice a2 n cap2] 25)).alloc (.cells #[.slice a3 p1 cap3, .slice a4 p2 cap4] 28)) := ((Below.refl _ _).alloc (Nat.le_refl _) _).alloc (by simp) _
  have hG0 : Holds ((w.alloc (.cells #[.int .i64 S, .slice a1 il cap1, .slice a2 n cap2] 25)).alloc (.cells #[.slice a3 p1 cap3, .slice a4 p2 cap4] 28)) w.heap.size 25 [.int .i64 S, .slice a1 il cap1, .slice a2 n cap2] := (Holds.new w 25 #[.int .i64 S, .slice a1 il cap1, .slice a2 n cap2]).alloc _
  have hL0 : Holds ((w.alloc (.cells #[.int .i64 S, .slice a1 il cap1, .slice a2 n cap2] 25)).alloc (.cells #[.slice a3 p1 cap3, .slice a4 p2 cap4] 28)) (w.heap.size + 1) 28 [.slice a3 p1 cap3, .slice a4 p2 cap4] := holds_at (k := w.heap.size + 1) (by simp) 28 #[.slice a3 p1 cap3, .slice a4 p2 cap4]
  have c0 := hG0.cell 0
  have c1 := hG0.cell 1
  have c2 := hG0.cell 2
  simp only [List.getElem?_cons_zero, List.getElem?_cons_succ] at c0 c1 c2
  have HB0 := Lib.hid hB0
  have HG0 := Lib.hid hG0
  have HL0 := Lib.hid hL0
  have HC1 := Lib.hid (refCheck g (.agg #[.int .i64 S, .slice a1 il cap1, .slice a2 n cap2]) _ (HG.out.step hB0) hb)
  clear hB0 hG0 hL0 hs ha hbb hp hq hne hile hp1 hp2 hS hlit
  by_cases hok : genOk g = true
  · have hcode : genCode g = 0 := if_pos hok
    have hacc : accCode g l = lasCode l := if_pos hok
    rw [hacc]
    go_enter Tryd.func13, Tryd.ntmps13
    by_cases hlc : lasCode l = 0
    · have hlit := HLIT.out hok hlc
      unfold littleB genN at hlit
      have hlit' := of_decide_eq_true hlit
      rw [HNE.out, HP1.out, HP2.out] at hlit'
      have hlb : ¬ (p2 < 1 ∨ 4096 < p1 + p2) := by
        intro hc
        have := hlc
        unfold lasCode at this
        rw [HP1.out, HP2.out, if_pos hc] at this
        omega
      obtain ⟨N, hN⟩ : ∃ N, (p1 + p2) * n = N := ⟨_, rfl⟩
      have hN6 : N ≤ 600 := by
        rw [← hN, Nat.mul_comm]
        exact Nat.le_trans (Nat.mul_le_mul_right _ (Nat.le_add_right _ _)) hlit'
      obtain ⟨hp0, hpi, hpm⟩ := genOk_parts hok
      rw [HNE.out] at hp0 hpi hpm
      obtain ⟨adj, hadj⟩ : ∃ adj, stepsOf g l = adj := ⟨_, rfl⟩
      have HFIT : Hid (0 < n → Fit2 g l N) := fun h => by
        have := fit2_of hok hlc (by rw [HNE.out]; exact h) hwf.out
        rw [HNE.out, HP1.out, HP2.out, hN] at this
        exact this
      have hnN : n ≤ N := by
        rw [← hN]
        have : 1 * n ≤ (p1 + p2) * n := Nat.mul_le_mul_right _ (by omega)
        omega
      have hpos : ∀ p, p < N → 0 < n := fun p hp => by
        rcases Nat.eq_zero_or_pos n with h | h
        · rw [h, Nat.mul_zero] at hN; omega
        · exact h
      have HADJ : Hid (∀ p, p < N → ∀ e ∈ adj p, e.1 < N) := fun p hp e he => by
        rw [← hadj] at he
        exact rch_lt (HFIT.out (hpos p hp)) hp (Rch.one he)
      have HALN : Hid (∀ p, p < N → (adj p).length ≤ 131072) := fun p hp => by
        rw [← hadj]; exact stepsOf_len (HFIT.out (hpos p hp))
      have HABT : Hid (∀ p, p < N → ∀ e ∈ adj p, e.2 < 18446744073709551616) := fun p hp e he => by
        rw [← hadj] at he
        exact stepsOf_bits (HFIT.out (hpos p hp)) he
      have HPAIR : Hid (∀ w', Below w.heap.size w w' → Calls Tryd.prog 22 #[.agg #[.int .i64 S, .slice a1 il cap1, .slice a2 n cap2], .agg #[.slice a3 p1 cap3, .slice a4 p2 cap4]] w' fun e w'' => ∃ vT vZ, e = .returned (.agg #[vT, vZ]) ∧ OwnRR 22 3 w'.heap.size w'' vT (rowT adj N) ∧ OwnRR 26 49 w'.heap.size w'' vZ (rowZ adj N) ∧ Below w'.heap.size w' w'') := fun w' hw' => by
        have := pairsFn g l _ _ w' (HG.out.step hw') (HL.out.step hw') (by rw [HP1.out, HP2.out]; omega) (by rw [HNE.out]; exact hp0.2.2.1) (by rw [HNE.out, HP1.out, HP2.out, hN]; exact hN6) (by rw [HNE.out]; exact hpm)
        rw [HNE.out, HP1.out, HP2.out, hN, hadj] at this
        exact this
      have HINI : Hid (∀ w', Below w.heap.size w w' → RowI w'.heap.size w' (.slice a1 il cap1) ((g.init.map Int.toNat).map fun (x : Nat) => (x : Int))) := fun w' hw' => by
        have e : ((g.init.map Int.toNat).map fun (x : Nat) => (x : Int)) = g.init := by
          rw [List.map_map]
          conv => rhs; rw [← List.map_id g.init]
          refine List.map_congr_left fun x hx => ?_
          have := hpi x hx
          simp; omega
        rw [e]
        exact (HA.out.below hw').mono hw'.size
      have HINL : Hid (∀ s ∈ g.init.map Int.toNat, s < N) := fun s hs => by
        obtain ⟨x, hx, rfl⟩ := List.mem_map.1 hs
        have := hpi x hx
        omega
      have hil4 : il ≤ 4096 := by rw [← HIL.out]; exact hp0.2.2.2
      have HADE := Lib.hid hadj
      have HNN := Lib.hid hN
      have HPI := Lib.hid hpi
      clear hlit hlit' hN hadj hpi hpm
      go_wp2_with (first
        | (go_at_call 8; refine (HC1.out).mono ?_; rintro e w1 ⟨rfl, hb1⟩; rw [hcode]; have HB1 := Lib.hid (HB0.out.trans (hb1.mono HB0.out.size)); have HG1 := Lib.hid (HG0.out.belowAll hb1); have HL1 := Lib.hid (HL0.out.belowAll hb1); have d0 := HL1.out.cell 0; have d1 := HL1.out.cell 1; simp only [List.getElem?_cons_zero, List.getElem?_cons_succ] at d0 d1; clear hb1)
        | (go_at_call 10; refine (refLassoCheck l _ w1 (HL.out.step HB1.out) hb2).mono ?_; rintro e w2 ⟨rfl, hb2'⟩; rw [hlc]; have HB2 := Lib.hid (HB1.out.trans (hb2'.mono HB1.out.size)); have HG2 := Lib.hid (HG1.out.belowAll hb2'); have HL2 := Lib.hid (HL1.out.belowAll hb2'); have e0 := HL2.out.cell 0; have e1 := HL2.out.cell 1; have f0 := HG2.out.cell 0; have f1 := HG2.out.cell 1; have f2 := HG2.out.cell 2; simp only [List.getElem?_cons_zero, List.getElem?_cons_succ] at e0 e1 f0 f1 f2; clear hb2')
        | (go_at_call 22; refine (HPAIR.out _ HB2.out).mono ?_; rintro e w3 ⟨vT, vZ, rfl, hT, hZ, hb3⟩; obtain ⟨aT, cT, hvT, hcT, hmT⟩ := hT.form; obtain ⟨aZ, cZ, hvZ, hcZ, hmZ⟩ := hZ.form; rw [rowT_len] at hvT hcT; rw [rowZ_len] at hvZ hcZ; subst hvT hvZ; have hal : Below w3.heap.size w3 (w3.alloc (.cells #[.slice aT N cT, .slice aZ N cZ] 59)) := (Below.refl _ _).alloc (Nat.le_refl _) _; have HT := Lib.hid (graphTo_of (hT.below hal) (fun p hp e he => by have := HADJ.out p hp e he; omega)); have HZ := Lib.hid (graphZ_of (hZ.below hal) HABT.out); have HG3 := Lib.hid ((HG2.out.belowAll hb3).belowAll hal); have HL3 := Lib.hid ((HL2.out.belowAll hb3).belowAll hal); have HP3 := Lib.hid (Holds.new w3 59 #[.slice aT N cT, .slice aZ N cZ]); have HB3 := Lib.hid ((HB2.out.trans (hb3.mono HB2.out.size)).trans (hal.mono (Nat.le_trans HB2.out.size hb3.size))); have q0 := HP3.out.cell 0; have q1 := HP3.out.cell 1; have q2 := HG3.out.cell 1; have q3 := (HG2.out.belowAll hb3).cell 1; simp only [List.getElem?_cons_zero, List.getElem?_cons_succ] at q0 q1 q2 q3; clear hal hT hZ hb3)
        | (go_at_call 23; refine (reachFn adj N _ _ _ (g.init.map Int.toNat) _ HT.out (by omega) HADJ.out HALN.out (HINI.out _ HB3.out) HINL.out (by rw [List.length_map, HIL.out]; omega)).mono ?_; rintro e w4 ⟨vm, met, rfl, hM, hmet, hb4⟩; have HM := Lib.hid hM; have HMET := Lib.hid hmet; have HB4 := Lib.hid (HB3.out.trans (hb4.mono HB3.out.size)); have Hb4 := Lib.hid hb4; obtain ⟨am, cm, rfl, hcm, hmm⟩ := owns_form hM; clear hM hmet hb4))
      generalize hWp : w3.alloc (.cells #[.slice aT N cT, .slice aZ N cZ] 59) = Wp at *
      generalize hbp : w3.heap.size = bp at *
      generalize hbl : w.heap.size + 1 = bl at *
      obtain ⟨SS, hSS⟩ : ∃ SS, 2 ^ g.sets.toNat - 1 = SS := ⟨_, rfl⟩
      have HSS := Lib.hid hSS
      have HRE : Hid (∀ w' vf (fr : List Nat), Below Wp.heap.size Wp w' → RowI w'.heap.size w' vf (fr.map fun (x : Nat) => (x : Int)) → (∀ s ∈ fr, s < N) → fr.length ≤ 131072 → Calls Tryd.prog 23 #[.agg #[.slice aT N cT, .slice aZ N cZ], vf] w' fun e w'' => ∃ v met, e = .returned v ∧ w''.ownsRow w'.heap.size 4 1 v N (metB met N) ∧ (∀ x, x < N → ((met x).isSome = true ↔ ∃ s ∈ fr, Rch adj s x)) ∧ Below w'.heap.size w' w'') := fun w' vf fr hw' h1 h2 h3 =>
        reachFn adj N _ _ vf fr w' ((HT.out.below hw').mono hw'.size) (by omega) HADJ.out HALN.out h1 h2 h3
      obtain ⟨T, hT⟩ : ∃ T : Nat, S = (T : Int) := ⟨S.toNat, by have := HSE.out; have := hp0.1; omega⟩
      subst hT
      have hT60 : T ≤ 60 := by have := HSE.out; have := hp0.2.1; omega
      have HSS2 : Hid (2 ^ T - 1 = SS) := by
        have := HSS.out
        rw [HSE.out] at this
        exact this
      have H0 : Hid (∀ i', i' < 0 → ¬ ((met i').isSome = true ∧ i' / n = p1 ∧ goodP adj SS i')) := fun i' h => by omega
      clear q0 q1 q2 q3 c0 c1 c2 d0 d1 e0 e1 f0 f1 f2 hWp hbp hSS
      go_loopw [9] (fun y wr => ∃ i : Nat, y = .int .i64 (i : Int) ∧ i ≤ N ∧ Hid (∀ i', i' < i → ¬ ((met i').isSome = true ∧ i' / n = p1 ∧ goodP adj SS i')) ∧ Hid (Below w4.heap.size w4 wr)) (fun y _ => (N + 10 - intOf y).toNat)
      case atStart => exact ⟨0, rfl, Nat.zero_le _, H0, Below.refl _ _⟩
      case round =>
        clear H0
        obtain ⟨i, rfl, hi, H1, HBr⟩ := hrel
        obtain ⟨W1, rfl⟩ : ∃ W, W = wr := ⟨wr, rfl⟩
        have HB1 : Hid (Below Wp.heap.size Wp W1) := Hb4.out.trans (HBr.out.mono Hb4.out.size)
        by_cases hin : i < N
        · have hin' : (i : Int) < (N : Int) := by omega
          have hn0 : 0 < n := hpos i hin
          obtain ⟨gm, c', hv, _, _, hgm, hcm'⟩ := met_at HM.out hin
          injection hv with hv1 hv2 hv3
          subst hv1
          have m0 : W1.cell? ⟨gm, i, none⟩ = some (.bool (met i).isSome) := (cell_below HBr.out hgm _).trans (hcm' i hin)
          have hwi : IntKind.i64.wrap ((i : Int) + 1) = ((i + 1 : Nat) : Int) := by rw [wrap_small (by omega) (by omega)]; omega
          obtain ⟨mi, hmi⟩ : ∃ mi, (met i).isSome = mi := ⟨_, rfl⟩
          rw [hmi] at m0
          have HMI := Lib.hid hmi
          clear hmi hv2 hv3 hcm'
          cases mi with
          | false =>
            have H1' : Hid (∀ i', i' < i + 1 → ¬ ((met i').isSome = true ∧ i' / n = p1 ∧ goodP adj SS i')) := fun i' h hg => by
              by_cases he : i' = i
              · subst he
                rw [HMI.out] at hg
                cases hg.1
              · exact H1.out i' (by omega) hg
            go_wp2
            go_quiet (fail)
            go_wp2
            exact ⟨⟨i + 1, rfl, by omega, H1', Below.drewN HBr.out _⟩, by simp [intOf]; omega⟩
          | true =>
            obtain ⟨iq, hiq⟩ : ∃ iq, i / n = iq := ⟨_, rfl⟩
            have hdv : Int.tdiv (i : Int) (n : Int) = (iq : Int) := by rw [natCast_div, hiq]
            have hnz : ((n : Int) == 0) = false := by simp; omega
            have hiqn : iq < 1000000 := by rw [← hiq]; exact Nat.lt_of_le_of_lt (Nat.div_le_self _ _) (by omega)
            have hG1 := HG3.out.belowAll HB1.out
            have hL1 := HL3.out.belowAll HB1.out
            have g2 := hG1.cell 2
            have l0 := hL1.cell 0
            simp only [List.getElem?_cons_zero, List.getElem?_cons_succ] at g2 l0
            clear hG1 hL1
            by_cases hpl : iq = p1
            · have hq1 : ((iq : Int) == (p1 : Int)) = true := by simp [hpl]
              have HPL : Hid (i / n = p1) := by rw [← hpl]; exact hiq
              clear hiq
              go_wp2
              go_quiet (fail)
              generalize hW2 : W1.drewN nq = W2
              have HB2 : Hid (Below Wp.heap.size Wp W2) := by rw [← hW2]; exact Below.drewN HB1.out nq
              have HBr2 : Hid (Below w4.heap.size w4 W2) := by rw [← hW2]; exact Below.drewN HBr.out nq
              clear hW2 m0 g2 l0 hdv hnz hq1 hpl hiqn
              obtain ⟨gt, ot, ut, rfl, hgt, e0, hut⟩ := (HT.out.below HB2.out).at (k := i) (by simp; exact hin)
              have e1 : ((List.range N).map fun x => (adj x).map fun e => (e.1 : Int))[i]'(by simp; exact hin) = ((adj i).map fun e => e.1).map fun (x : Nat) => (x : Int) := by simp
              rw [e1] at hut
              obtain ⟨a6, cap6, rfl, _, _⟩ := hut.form
              obtain ⟨q, hq⟩ : ∃ q, (adj i).length = q := ⟨_, rfl⟩
              rw [List.length_map, List.length_map, hq] at e0 hut
              have hP2 := HP3.out.belowAll HB2.out
              have x0 := hP2.cell 0
              have x1 := hP2.cell 1
              simp only [List.getElem?_cons_zero, List.getElem?_cons_succ] at x0 x1
              have HCR : Hid (∀ w', Below W2.heap.size W2 w' → Calls Tryd.prog 23 #[.agg #[.slice (some ⟨gt, ot, none⟩) N cT, .slice aZ N cZ], .slice a6 q cap6] w' fun e w'' => ∃ v met1, e = .returned v ∧ w''.ownsRow w'.heap.size 4 1 v N (metB met1 N) ∧ (∀ x, x < N → ((met1 x).isSome = true ↔ ∃ e0 ∈ adj i, Rch adj e0.1 x)) ∧ Below w'.heap.size w' w'') := fun w' hw' => by
                refine (HRE.out w' (.slice a6 q cap6) ((adj i).map fun e => e.1) (HB2.out.trans (hw'.mono HB2.out.size)) ((hut.below (hw'.mono HB2.out.size)).mono (Nat.le_trans HB2.out.size hw'.size)) (fun s hs => by obtain ⟨e, he, rfl⟩ := List.mem_map.1 hs; exact HADJ.out i hin e he) (by rw [List.length_map]; exact HALN.out i hin)).mono ?_
                rintro e w'' ⟨v, met1, h1, h2, h3, h4⟩
                refine ⟨v, met1, h1, h2, fun x hx => (h3 x hx).trans ⟨?_, ?_⟩, h4⟩
                · rintro ⟨s, hs, hr⟩
                  obtain ⟨e, he, rfl⟩ := List.mem_map.1 hs
                  exact ⟨e, he, hr⟩
                · rintro ⟨e, he, hr⟩
                  exact ⟨e.1, List.mem_map.2 ⟨e, he, rfl⟩, hr⟩
              have hC : Hid (∀ w', Below W2.heap.size W2 w' → (fun w' : World => Below W2.heap.size W2 w' ∧ w'.cell? ⟨bp, 0, none⟩ = some (.slice (some ⟨gt, ot, none⟩) N cT) ∧ w'.cell? ⟨bp, 1, none⟩ = some (.slice aZ N cZ) ∧ w'.cell? ⟨gt, ot + i, none⟩ = some (.slice a6 q cap6)) w') := fun w' h => by
                have h1 := hP2.belowAll h
                exact ⟨h, h1.cell 0, h1.cell 1, (cell_below (h.mono HB2.out.size) hgt _).trans e0⟩
              clear hP2 hut e1 hq
              go_wp2
              go_region_held3 (fun w' : World => Below W2.heap.size W2 w' ∧ w'.cell? ⟨bp, 0, none⟩ = some (.slice (some ⟨gt, ot, none⟩) N cT) ∧ w'.cell? ⟨bp, 1, none⟩ = some (.slice aZ N cZ) ∧ w'.cell? ⟨gt, ot + i, none⟩ = some (.slice a6 q cap6)) (first | exact hC.out _ (Below.refl _ _).drew | exact hS5.out) (first
                | (go_at_call 23; refine (HCR.out _ (Below.refl _ _).drew).mono ?_; rintro e w5 ⟨v5, met1, rfl, hM5, hmet1, hb5⟩; have HM5 := Lib.hid hM5; have HMET1 := Lib.hid hmet1; have HB5 : Hid (Below W2.heap.size W2 w5) := ((Below.refl _ _).drew.trans hb5); have hS5 := Lib.hid (hC.out _ HB5.out); clear hM5 hmet1 hb5))
              all_goals (
                have HBp5 : Hid (Below Wp.heap.size Wp w5) := HB2.out.trans (HB5.out.mono HB2.out.size)
                have HBr5 : Hid (Below w4.heap.size w4 w5) := HBr2.out.trans (HB5.out.mono HBr2.out.size)
                obtain ⟨g5, c5, rfl, hc5, hm5, hg5, hcell5⟩ := met_at HM5.out hin
                have m5 := hcell5 i hin
                have HCELL5 := Lib.hid hcell5
                obtain ⟨fi, hfi⟩ : ∃ fi, (met1 i).isSome = fi := ⟨_, rfl⟩
                rw [hfi] at m5
                clear hcell5 x0 x1 e0
                cases fi with
                | false =>
                  have H1' : Hid (∀ i', i' < i + 1 → ¬ ((met i').isSome = true ∧ i' / n = p1 ∧ goodP adj SS i')) := fun i' h hg => by
                    by_cases he : i' = i
                    · subst he
                      have := (HMET1.out i' hin).2 (good_back hg.2.2)
                      rw [hfi] at this
                      cases this
                    · exact H1.out i' (by omega) hg
                  clear hfi
                  go_wp2
                  exact ⟨⟨i + 1, rfl, by omega, H1', HBr5⟩, by simp [intOf]; omega⟩
                | true =>
                  have HBACK : Hid (∃ e0 ∈ adj i, Rch adj e0.1 i) := (HMET1.out i hin).1 hfi
                  have HU0 : Hid (∀ b, (0 : Nat).testBit b = true ↔ upTo adj i 0 b) := fun b => ⟨fun h => by simp at h, fun h => (upTo_zero h).elim⟩
                  clear hfi
                  go_wp2
                  go_loopw [11, 12] (fun z y wr => ∃ k A : Nat, y = .int .i64 (k : Int) ∧ z = .int .u64 (A : Int) ∧ k ≤ N ∧ A < 18446744073709551616 ∧ Hid (∀ b, A.testBit b = true ↔ upTo adj i k b) ∧ Hid (Below w5.heap.size w5 wr)) (fun _ y _ => (N + 10 - intOf y).toNat)
                  case atStart => exact ⟨0, 0, rfl, rfl, Nat.zero_le _, by omega, HU0, Below.refl _ _⟩
                  case round =>
                    clear HU0 m5
                    obtain ⟨k, A, rfl, rfl, hk, hA, HU, HBw⟩ := hrel
                    obtain ⟨W6, rfl⟩ : ∃ W, W = wr := ⟨wr, rfl⟩
                    have HBp6 : Hid (Below Wp.heap.size Wp W6) := HBp5.out.trans (HBw.out.mono HBp5.out.size)
                    by_cases hkN : k < N
                    · have hkN' : (k : Int) < (N : Int) := by omega
                      have hwk : IntKind.i64.wrap ((k : Int) + 1) = ((k + 1 : Nat) : Int) := by rw [wrap_small (by omega) (by omega)]; omega
                      have m6 : W6.cell? ⟨g5, k, none⟩ = some (.bool (met1 k).isSome) := (cell_below HBw.out hg5 _).trans (HCELL5.out k hkN)
                      obtain ⟨fk, hfk⟩ : ∃ fk, (met1 k).isSome = fk := ⟨_, rfl⟩
                      rw [hfk] at m6
                      cases fk with
                      | false =>
                        have HU' : Hid (∀ b, A.testBit b = true ↔ upTo adj i (k + 1) b) := fun b => (HU.out b).trans (upTo_skip (fun h => by
                          have := (HMET1.out k hkN).2 h
                          rw [hfk] at this
                          cases this)).symm
                        clear hfk
                        go_wp2
                        exact ⟨⟨k + 1, A, rfl, rfl, by omega, hA, HU', HBw⟩, by simp [intOf]; omega⟩
                      | true =>
                        have HFK : Hid (∃ e0 ∈ adj i, Rch adj e0.1 k) := (HMET1.out k hkN).1 hfk
                        clear hfk
                        have HCK : Hid (∀ w' (m y : Nat), y < N → Below Wp.heap.size Wp w' → Holds w' m 3 [.int .i64 (y : Int)] → Calls Tryd.prog 23 #[.agg #[.slice (some ⟨gt, ot, none⟩) N cT, .slice aZ N cZ], .slice (some ⟨m, 0, none⟩) 1 1] w' fun e w'' => ∃ v met2, e = .returned v ∧ w''.ownsRow w'.heap.size 4 1 v N (metB met2 N) ∧ (∀ x, x < N → ((met2 x).isSome = true ↔ Rch adj y x)) ∧ Below w'.heap.size w' w'') := fun w' m y hy hw' hm => by
                          refine (HRE.out w' (.slice (some ⟨m, 0, none⟩) 1 1) [y] hw' (rowI_one (xs := [(y : Int)]) hm (fun x hx => by rw [List.mem_singleton] at hx; omega) (by simp)) (fun s hs => by rw [List.mem_singleton] at hs; omega) (by simp)).mono ?_
                          rintro e w'' ⟨v, met1, h1, h2, h3, h4⟩
                          exact ⟨v, met1, h1, h2, fun x hx => (h3 x hx).trans ⟨fun ⟨s, hs, hr⟩ => by rw [List.mem_singleton] at hs; subst hs; exact hr, fun hr => ⟨y, by simp, hr⟩⟩, h4⟩
                        have hal7 : Below W6.heap.size W6 (W6.alloc (.cells #[.int .i64 (k : Int)] 3)) := (Below.refl _ _).alloc (Nat.le_refl _) _
                        have HC7 := Lib.hid (HCK.out (W6.alloc (.cells #[.int .i64 (k : Int)] 3)) W6.heap.size k hkN (HBp6.out.trans (hal7.mono HBp6.out.size)) (Holds.new W6 3 #[.int .i64 (k : Int)]))
                        have hP6 := HP3.out.belowAll HBp6.out
                        have x0 := hP6.cell 0
                        have x1 := hP6.cell 1
                        simp only [List.getElem?_cons_zero, List.getElem?_cons_succ] at x0 x1
                        obtain ⟨q2, hq2⟩ : ∃ q2, (adj k).length = q2 := ⟨_, rfl⟩
                        have HQ2 := Lib.hid hq2
                        have HAL7 := Lib.hid hal7
                        clear hP6 hq2 hal7
                        go_wp2_with (go_at_call 23; refine (HC7.out).mono ?_; rintro e w8 ⟨v8, met2, rfl, hM8, hmet2, hb8⟩; have HM8 := Lib.hid hM8; have HMET2 := Lib.hid hmet2; have HB68 : Hid (Below W6.heap.size W6 w8) := HAL7.out.trans (hb8.mono HAL7.out.size); obtain ⟨g8, c8, rfl, hc8, hm8, hg8, hcell8⟩ := met_at hM8 hin; have HCELL8 := Lib.hid hcell8; clear hM8 hmet2 hb8 hcell8 x0 x1)
                        have HBp8 : Hid (Below Wp.heap.size Wp w8) := HBp6.out.trans (HB68.out.mono HBp6.out.size)
                        have HBw8 : Hid (Below w5.heap.size w5 w8) := HBw.out.trans (HB68.out.mono HBw.out.size)
                        have HV0 : Hid (∀ b, A.testBit b = true ↔ upTo adj i k b ∨ partTo adj i k 0 b) := fun b => (HU.out b).trans ⟨.inl, fun h => h.elim id (fun h => (partTo_zero h).elim)⟩
                        obtain ⟨bi, hbi⟩ : ∃ bi, (met2 i).isSome = bi := ⟨_, rfl⟩
                        have HBI := Lib.hid hbi
                        have HJ0 : Hid (bi = false → 0 = 0) := fun _ => rfl
                        clear hbi
                        go_loopw [11, 14] (fun z y wr => ∃ j A : Nat, y = .int .i64 (j : Int) ∧ z = .int .u64 (A : Int) ∧ j ≤ q2 ∧ A < 18446744073709551616 ∧ Hid (∀ b, A.testBit b = true ↔ upTo adj i k b ∨ partTo adj i k j b) ∧ Hid (bi = false → j = 0) ∧ Hid (Below w8.heap.size w8 wr)) (fun _ y _ => (q2 + 10 - intOf y).toNat)
                        case atStart => exact ⟨0, A, rfl, rfl, Nat.zero_le _, hA, HV0, HJ0, Below.refl _ _⟩
                        case round =>
                          clear HV0 HJ0
                          obtain ⟨j, A', rfl, rfl, hj, hA', HV, HJ, HBx⟩ := hrel
                          obtain ⟨W9, rfl⟩ : ∃ W, W = wr := ⟨wr, rfl⟩
                          have HBp9 : Hid (Below Wp.heap.size Wp W9) := HBp8.out.trans (HBx.out.mono HBp8.out.size)
                          have HBw9 : Hid (Below w5.heap.size w5 W9) := HBw8.out.trans (HBx.out.mono HBw8.out.size)
                          have hP9 := HP3.out.belowAll HBp9.out
                          have x0 := hP9.cell 0
                          have x1 := hP9.cell 1
                          simp only [List.getElem?_cons_zero, List.getElem?_cons_succ] at x0 x1
                          obtain ⟨gt', ot', ut, hgo, hgt', e2, hut⟩ := (HT.out.below HBp9.out).at (k := k) (by simp; exact hkN)
                          injection hgo with hgo
                          injection hgo with hg1 hg2
                          subst hg1 hg2
                          have e1 : ((List.range N).map fun x => (adj x).map fun e => (e.1 : Int))[k]'(by simp; exact hkN) = (adj k).map fun e => (e.1 : Int) := by simp
                          rw [e1] at hut
                          obtain ⟨a7, cap7, rfl, _, _⟩ := hut.form
                          rw [List.length_map, HQ2.out] at e2 hut
                          have m9 : W9.cell? ⟨g8, i, none⟩ = some (.bool bi) := by
                            rw [← HBI.out]
                            exact (cell_below HBx.out hg8 _).trans (HCELL8.out i hin)
                          clear e1 hP9
                          by_cases hjq : j < q2 ∧ bi = true
                          · obtain ⟨hjq, hbt⟩ := hjq
                            subst hbt
                            have hjq' : (j : Int) < (q2 : Int) := by omega
                            have hej : (adj k)[j]? = some ((adj k)[j]'(by rw [HQ2.out]; exact hjq)) := List.getElem?_eq_getElem _
                            have hl1 : ((adj k).map fun e => (e.1 : Int)).length = q2 := by rw [List.length_map, HQ2.out]
                            have hl2 : ((adj k).map fun e => e.2).length = q2 := by rw [List.length_map, HQ2.out]
                            have hq2b : q2 ≤ 131072 := by rw [← HQ2.out]; exact HALN.out k hkN
                            obtain ⟨g7, o7, rfl, hg7, hc7⟩ := hut.1.at (by rw [hl1]; omega)
                            have e3 := hc7 j (by rw [hl1]; omega)
                            have e4 : (ints ((adj k).map fun e => (e.1 : Int)))[j]? = some (.int .i64 (((adj k)[j]'(by rw [HQ2.out]; exact hjq)).1 : Int)) := by
                              unfold ints
                              rw [List.getElem?_map, List.getElem?_map, hej]; rfl
                            rw [e4] at e3
                            have htN := HADJ.out k hkN _ (List.mem_of_getElem? hej)
                            have hzb := HABT.out k hkN _ (List.mem_of_getElem? hej)
                            obtain ⟨hsZ, hZrow, hZat⟩ := HZ.out
                            obtain ⟨uz, huz, hRz⟩ := hZat k hkN
                            have hRz9 := hRz.below HBp9.out
                            obtain ⟨az, capz, rfl, _, _⟩ := hRz9.form
                            obtain ⟨gz, oz, haz, hgz, hcz⟩ := (hZrow.below HBp9.out).at (by omega)
                            have z0 := hcz k (by omega)
                            rw [huz] at z0
                            rw [List.length_map, HQ2.out] at z0 hRz9
                            obtain ⟨gy, oy, rfl, hgy, hcy⟩ := hRz9.1.at (by rw [hl2]; omega)
                            have z1 := hcy j (by rw [hl2]; omega)
                            have z4 : (u64s ((adj k).map fun e => e.2))[j]? = some (.int .u64 (((adj k)[j]'(by rw [HQ2.out]; exact hjq)).2 : Int)) := by
                              unfold u64s
                              rw [List.getElem?_map, List.getElem?_map, hej]; rfl
                            rw [z4] at z1
                            generalize (adj k)[j]'(by rw [HQ2.out]; exact hjq) = ee at hej e3 htN hzb z1
                            obtain ⟨t, zz⟩ := ee
                            simp only at e3 htN hzb z1
                            have HEJ := Lib.hid hej
                            have hwj : IntKind.i64.wrap ((j : Int) + 1) = ((j + 1 : Nat) : Int) := by rw [wrap_small (by omega) (by omega)]; omega
                            have hC : Hid (∀ w', Below W9.heap.size W9 w' → (fun w' : World => Below W9.heap.size W9 w' ∧ w'.cell? ⟨bp, 0, none⟩ = some (.slice (some ⟨gt, ot, none⟩) N cT) ∧ w'.cell? ⟨bp, 1, none⟩ = some (.slice aZ N cZ) ∧ w'.cell? ⟨gt, ot + k, none⟩ = some (.slice (some ⟨g7, o7, none⟩) q2 cap7) ∧ w'.cell? ⟨g7, o7 + j, none⟩ = some (.int .i64 (t : Int))) w') := fun w' h => by
                              have h1 := (HP3.out.belowAll HBp9.out).belowAll h
                              exact ⟨h, h1.cell 0, h1.cell 1, (cell_below h (Nat.lt_of_lt_of_le hgt' HBp9.out.size) _).trans e2, (cell_below h (Nat.lt_of_lt_of_le hg7 HBp9.out.size) _).trans e3⟩
                            have hZC : Hid (∀ w', Below W9.heap.size W9 w' → w'.cell? ⟨gz, oz + k, none⟩ = some (.slice (some ⟨gy, oy, none⟩) q2 capz) ∧ w'.cell? ⟨gy, oy + j, none⟩ = some (.int .u64 (zz : Int))) := fun w' h =>
                              ⟨(cell_below h (Nat.lt_of_lt_of_le hgz HBp9.out.size) _).trans z0, (cell_below h (Nat.lt_of_lt_of_le hgy HBp9.out.size) _).trans z1⟩
                            have HAZ := Lib.hid haz
                            have hal9 : Below W9.heap.size W9 (W9.drew.alloc (.cells #[.int .i64 (t : Int)] 3)) := ((Below.refl _ _).drew).alloc (Nat.le_refl _) _
                            have HC9 := Lib.hid (HCK.out (W9.drew.alloc (.cells #[.int .i64 (t : Int)] 3)) W9.heap.size t htN (HBp9.out.trans (hal9.mono HBp9.out.size)) (Holds.new W9.drew 3 #[.int .i64 (t : Int)]))
                            have HAL9 := Lib.hid hal9
                            have hS9a := Lib.hid (hC.out _ hal9)
                            clear hut hej e4 z4 huz hRz hRz9 hZrow hZat hcz hcy hc7 haz z0 z1 hal9
                            go_wp2
                            go_region_held3 (fun w' : World => Below W9.heap.size W9 w' ∧ w'.cell? ⟨bp, 0, none⟩ = some (.slice (some ⟨gt, ot, none⟩) N cT) ∧ w'.cell? ⟨bp, 1, none⟩ = some (.slice aZ N cZ) ∧ w'.cell? ⟨gt, ot + k, none⟩ = some (.slice (some ⟨g7, o7, none⟩) q2 cap7) ∧ w'.cell? ⟨g7, o7 + j, none⟩ = some (.int .i64 (t : Int))) (first | exact hC.out _ (Below.refl _ _).drew | exact hS9a.out | exact hS10.out) (first
                              | (go_at_call 23; refine (HC9.out).mono ?_; rintro e w10 ⟨v10, met3, rfl, hM10, hmet3, hb10⟩; have HMET3 := Lib.hid hmet3; have HB10 : Hid (Below W9.heap.size W9 w10) := HAL9.out.trans (hb10.mono HAL9.out.size); have hS10 := Lib.hid (hC.out _ HB10.out); have HM10 := Lib.hid hM10; clear hM10 hmet3 hb10))
                            all_goals (
                              obtain ⟨g10, c10, rfl, hc10, hm10, hg10, hcell10⟩ := met_at HM10.out hin
                              have m10 := hcell10 i hin
                              have x1 := hS10.out.2.2.1
                              obtain ⟨z0, z1⟩ := hZC.out _ HB10.out
                              have HBx10 : Hid (Below w8.heap.size w8 w10) := HBx.out.trans (HB10.out.mono HBx.out.size)
                              have hJ' : Hid (true = false → j + 1 = 0) := fun h => by cases h
                              obtain ⟨ti, hti⟩ : ∃ ti, (met3 i).isSome = ti := ⟨_, rfl⟩
                              rw [hti] at m10
                              have HTI := Lib.hid hti
                              have haz' := HAZ.out
                              clear hti hcell10 x0 e2 e3
                              cases ti with
                              | false =>
                                have HV' : Hid (∀ b, A'.testBit b = true ↔ upTo adj i k b ∨ partTo adj i k (j + 1) b) := fun b => by
                                  rw [partTo_succ HEJ.out, HV.out b]
                                  have hno : ¬ Rch adj t i := fun h => by
                                    have := (HMET3.out i hin).2 h
                                    rw [HTI.out] at this
                                    cases this
                                  exact ⟨fun h => h.elim .inl (fun h => .inr (.inl h)), fun h => h.elim .inl (fun h => h.elim .inr (fun h => (hno h.1).elim))⟩
                                go_wp2
                                exact ⟨⟨j + 1, A', rfl, rfl, by omega, hA', HV', hJ', HBx10⟩, by simp [intOf]; omega⟩
                              | true =>
                                have hor := bits_or_u64_nat A' zz hA' hzb
                                have hlt2 : A' ||| zz < 18446744073709551616 := Nat.or_lt_two_pow (n := 64) hA' hzb
                                have HV' : Hid (∀ b, (A' ||| zz).testBit b = true ↔ upTo adj i k b ∨ partTo adj i k (j + 1) b) := fun b => by
                                  rw [partTo_succ HEJ.out, Nat.testBit_or, Bool.or_eq_true, HV.out b]
                                  have hyes : Rch adj t i := (HMET3.out i hin).1 HTI.out
                                  exact ⟨fun h => h.elim (fun h => h.elim .inl (fun h => .inr (.inl h))) (fun h => .inr (.inr ⟨hyes, h⟩)), fun h => h.elim (fun h => .inl (.inl h)) (fun h => h.elim (fun h => .inl (.inr h)) (fun h => .inr h.2))⟩
                                generalize A' ||| zz = A2 at hor hlt2 HV'
                                subst haz'
                                go_wp2
                                exact ⟨⟨j + 1, A2, rfl, rfl, by omega, hlt2, HV', hJ', HBx10⟩, by simp [intOf]; omega⟩)
                          · have hstop : (decide ((j : Int) < (q2 : Int)) && bi) = false := by
                              by_cases h : j < q2
                              · rw [decide_eq_true (by omega), Bool.true_and]
                                cases bi with
                                | false => rfl
                                | true => exact (hjq ⟨h, rfl⟩).elim
                              · rw [decide_eq_false (by omega), Bool.false_and]
                            have HU' : Hid (∀ b, A'.testBit b = true ↔ upTo adj i (k + 1) b) := fun b => by
                              rw [HV.out b]
                              cases bi with
                              | false =>
                                have h0 := HJ.out rfl
                                subst h0
                                rw [upTo_none (fun h => by have := (HMET2.out i hin).2 h; rw [HBI.out] at this; cases this)]
                                exact ⟨fun h => h.elim id (fun h => (partTo_zero h).elim), .inl⟩
                              | true =>
                                have hje : j = q2 := by
                                  by_cases h : j < q2
                                  · exact (hjq ⟨h, rfl⟩).elim
                                  · omega
                                subst hje
                                rw [upTo_all HFK.out ((HMET2.out i hin).1 HBI.out), HQ2.out]
                            by_cases hjl : j < q2
                            · have hjl' : (j : Int) < (q2 : Int) := by omega
                              have hbf : bi = false := by
                                cases bi with
                                | false => rfl
                                | true => exact (hjq ⟨hjl, rfl⟩).elim
                              subst hbf
                              go_wp2
                              exact ⟨⟨k + 1, A', rfl, rfl, by omega, hA', HU', HBw9⟩, by simp [intOf]; omega⟩
                            · have hjl' : decide ((j : Int) < (q2 : Int)) = false := decide_eq_false (by omega)
                              go_wp2
                              exact ⟨⟨k + 1, A', rfl, rfl, by omega, hA', HU', HBw9⟩, by simp [intOf]; omega⟩
                    · have hkN' : decide ((k : Int) < (N : Int)) = false := decide_eq_false (by omega)
                      have hke : k = N := by omega
                      subst hke
                      have hG6 := (HG3.out.belowAll HBp6.out).cell 0
                      simp only [List.getElem?_cons_zero] at hG6
                      have hgood := upTo_good (S := SS) (fun j hj => (by
                        obtain ⟨e0, he0, hr⟩ := hj
                        have hf := HFIT.out hn0
                        rw [← HADE.out] at he0 hr
                        exact rch_lt hf (by have := HADJ.out i hin e0 (by rw [← HADE.out]; exact he0); exact this) hr)) HBACK.out HU.out
                      have HGOOD := Lib.hid hgood
                      have hpow : (2 : Int) ^ T = ((2 ^ T : Nat) : Int) := by norm_cast
                      have hpl : 2 ^ T < 18446744073709551616 := Nat.lt_of_le_of_lt (Nat.pow_le_pow_right (by omega) hT60) (by decide)
                      have hp00 : 0 < 2 ^ T := Nat.two_pow_pos T
                      have hShl : IntKind.u64.wrap ((2 : Int) ^ T) = ((2 ^ T : Nat) : Int) := by rw [hpow, IntKind.wrap_u64]; omega
                      have hSub : IntKind.u64.wrap (((2 ^ T : Nat) : Int) - 1) = ((2 ^ T - 1 : Nat) : Int) := by rw [IntKind.wrap_u64]; omega
                      rw [HSS2.out] at hSub
                      obtain ⟨P2, hP2⟩ : ∃ P2, 2 ^ T = P2 := ⟨_, rfl⟩
                      rw [hP2] at hShl hSub
                      have HBr6 : Hid (Below w4.heap.size w4 W6) := HBr5.out.trans (HBw.out.mono HBr5.out.size)
                      clear hgood hpow hpl hp00 hP2
                      by_cases hAS : A = SS
                      · have heq : ((A : Int) == (SS : Int)) = true := by simp [hAS]
                        have hyes : accP g l := by
                          have hf := HFIT.out hn0
                          refine (accP_ref hf (by rw [HNE.out]; exact HPI.out)).2 ⟨i, hin, ?_, by rw [HNE.out, HP1.out]; exact HPL.out, by rw [HADE.out, HSS.out]; exact HGOOD.out.1 hAS⟩
                          obtain ⟨s, hs, hr⟩ := (HMET.out i hin).1 HMI.out
                          obtain ⟨z, hz, rfl⟩ := List.mem_map.1 hs
                          exact ⟨z, hz, by rw [HADE.out]; exact hr⟩
                        have HYES := Lib.hid hyes
                        have HBE := Lib.hid (HB4.out.trans (HBr6.out.mono HB4.out.size))
                        clear hyes hAS
                        go_wp2
                        go_ret2
                        exact ⟨true, by rw [hlc]; rfl, ⟨fun _ => ⟨hlc, HYES.out⟩, fun _ => rfl⟩, HBE.out⟩
                      · have heq : ((A : Int) == (SS : Int)) = false := by simp; omega
                        have H1' : Hid (∀ i', i' < i + 1 → ¬ ((met i').isSome = true ∧ i' / n = p1 ∧ goodP adj SS i')) := fun i' h hg => by
                          by_cases he : i' = i
                          · subst he
                            exact hAS (HGOOD.out.2 hg.2.2)
                          · exact H1.out i' (by omega) hg
                        clear hAS
                        go_wp2
                        exact ⟨⟨i + 1, rfl, by omega, H1', HBr6⟩, by simp [intOf]; omega⟩)
            · have hq1 : ((iq : Int) == (p1 : Int)) = false := by simp; omega
              have H1' : Hid (∀ i', i' < i + 1 → ¬ ((met i').isSome = true ∧ i' / n = p1 ∧ goodP adj SS i')) := fun i' h hg => by
                by_cases he : i' = i
                · subst he
                  exact hpl (hiq.symm.trans hg.2.1)
                · exact H1.out i' (by omega) hg
              clear hiq
              go_wp2
              go_quiet (fail)
              go_wp2
              exact ⟨⟨i + 1, rfl, by omega, H1', Below.drewN HBr.out _⟩, by simp [intOf]; omega⟩
        · have hin' : decide ((i : Int) < (N : Int)) = false := decide_eq_false (by omega)
          have hno : ¬ accP g l := by
            rcases Nat.eq_zero_or_pos n with h0 | h0
            · rintro ⟨s, hs, _⟩
              have := HPI.out s hs
              omega
            · intro ha
              have hf := HFIT.out h0
              obtain ⟨j, hj, ⟨s, hs, hr⟩, hpl, hgd⟩ := (accP_ref hf (by rw [HNE.out]; exact HPI.out)).1 ha
              rw [HNE.out, HP1.out] at hpl
              rw [HADE.out] at hr hgd
              rw [HSS.out] at hgd
              exact H1.out j (by omega) ⟨(HMET.out j hj).2 ⟨s.toNat, List.mem_map.2 ⟨s, hs, rfl⟩, hr⟩, hpl, hgd⟩
          have HNO := Lib.hid hno
          have HBE := Lib.hid (HB4.out.trans (HBr.out.mono HB4.out.size))
          clear hno
          go_wp2
          go_ret2
          exact ⟨false, by rw [hlc]; rfl, ⟨fun h => (by cases h), fun h => (HNO.out h.2).elim⟩, HBE.out⟩
    · go_wp2_with (first
        | (go_at_call 8; refine (HC1.out).mono ?_; rintro e w1 ⟨rfl, hb1⟩; rw [hcode]; have HB1 := Lib.hid (HB0.out.trans (hb1.mono HB0.out.size)); have HL1 := Lib.hid (HL0.out.belowAll hb1); have d0 := HL1.out.cell 0; have d1 := HL1.out.cell 1; simp only [List.getElem?_cons_zero, List.getElem?_cons_succ] at d0 d1; clear hb1)
        | (go_at_call 10; refine (refLassoCheck l _ w1 (HL.out.step HB1.out) hb2).mono ?_; rintro e w2 ⟨rfl, hb2'⟩; have HB2 := Lib.hid (HB1.out.trans (hb2'.mono HB1.out.size)); have hne : ((lasCode l : Int) == 0) = false := (by simp; exact hlc)))
      go_ret2
      exact ⟨false, rfl, ⟨fun h => (by cases h), fun h => absurd h.1 hlc⟩, HB2.out⟩
  · have hcode : genCode g = 120 := if_neg hok
    have hacc : accCode g l = 120 := if_neg hok
    rw [hacc]
    go_enter Tryd.func13, Tryd.ntmps13
    go_wp2_with (go_at_call 8; refine (HC1.out).mono ?_; rintro e w1 ⟨rfl, hb1⟩; rw [hcode])
    go_ret2
    exact ⟨false, rfl, ⟨fun h => (by cases h), fun h => by have := h.1; omega⟩, HB0.out.trans (hb1.mono HB0.out.size)⟩
end Go.Proofs.YtelanndleinabaaDoor
