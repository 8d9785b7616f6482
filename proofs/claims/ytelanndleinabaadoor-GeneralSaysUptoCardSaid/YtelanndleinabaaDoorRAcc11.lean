/- The walk of sextantref11.Accepts. -/
import Derived.Test.YtelanndleinabaaDoorRRuns
import Derived.Test.YtelanndleinabaaDoorRAlt
namespace Go.Proofs.YtelanndleinabaaDoor
open Go.RowKit
set_option linter.unusedVariables false

def altRes (a : Alt) (l : Las) : Nat × Bool := if altOk a then (if lasCode l = 0 then (0, altAcc a l) else (lasCode l, false)) else (110, false)

set_option maxHeartbeats 8000000 in
set_option maxRecDepth 100000 in
theorem refAcc11 (a : Alt) (l : Las) (va vl : Value) (w : World) (hA : AltAt w.heap.size w va a) (hl : LasAt w.heap.size w vl l) (hb : movesN a.states ≤ 4000000) (hb2 : a.states.length ≤ 4000000) (hb3 : l.pre.length + l.loop.length ≤ 4000000) :
    Calls Tryd.prog 18 #[va, vl] w fun e w' => e = .returned (.tuple #[.bool (altRes a l).2, .int .i64 ((altRes a l).1 : Int)]) ∧ Below w.heap.size w w' := by
  have HA := Lib.hid hA
  have HLAS := Lib.hid hl
  obtain ⟨va1, va2, rfl, hA1, hA2⟩ := hA
  obtain ⟨a1, cap1, rfl, hc1, hm1⟩ := hA1.form
  obtain ⟨vp, vq, rfl, hp, hq⟩ := hl
  obtain ⟨q, hqe⟩ : ∃ q, a.init.length = q := ⟨_, rfl⟩
  rw [hqe] at hA1 hc1 ⊢
  have hB0 : Below w.heap.size w ((w.alloc (.cells #[.slice a1 q cap1, va2] 39)).alloc (.cells #[vp, vq] 28)) := ((Below.refl _ _).alloc (Nat.le_refl _) _).alloc (by simp) _
  have hG0 := (Holds.new w 39 #[.slice a1 q cap1, va2]).alloc (.cells #[vp, vq] 28)
  have hL0 : Holds ((w.alloc (.cells #[.slice a1 q cap1, va2] 39)).alloc (.cells #[vp, vq] 28)) (w.heap.size + 1) 28 [vp, vq] := holds_at (k := w.heap.size + 1) (by simp) 28 #[vp, vq]
  have x0 := hG0.cell 0
  have x1 := hG0.cell 1
  simp only [List.getElem?_cons_zero, List.getElem?_cons_succ] at x0 x1
  have HB0 := Lib.hid hB0
  have HG0 := Lib.hid hG0
  have HL0 := Lib.hid hL0
  have HII := Lib.hid hA1
  have HQ := Lib.hid hqe
  rw [hqe] at HA
  clear hA1 hA2 hp hq hB0 hG0 hL0 hqe
  cases hok : altOk a with
  | false =>
    have hr : altRes a l = (110, false) := by unfold altRes; rw [hok]; rfl
    have HC : Hid (altCode a = 110) := by show _ = _; unfold altCode; rw [hok]; rfl
    rw [hr]
    clear hr hok
    go_enter Tryd.func18, Tryd.ntmps18
    go_wp2_with (go_at_call 17; refine (refAlt a (.agg #[.slice a1 q cap1, va2]) _ ((HA.out.below HB0.out).mono HB0.out.size) hb hb2).mono ?_; rintro e w3 ⟨rfl, hb'⟩; rw [HC.out]; have HB3 := Lib.hid (HB0.out.trans (hb'.mono HB0.out.size)); clear hb')
    go_ret2
    exact ⟨rfl, HB3.out⟩
  | true =>
    have HC : Hid (altCode a = 0) := by show _ = _; unfold altCode; rw [hok]; rfl
    have hcl : lasCode l = 0 ∨ lasCode l = 100 := by unfold lasCode; split <;> simp
    rcases hcl with hlc | hlc
    · have hr : altRes a l = (0, altAcc a l) := by unfold altRes; rw [hok, if_pos rfl, if_pos hlc]
      rw [hr]
      obtain ⟨R, hR⟩ : ∃ R, altAcc a l = R := ⟨_, rfl⟩
      rw [hR]
      obtain ⟨hp0, hp4⟩ := las_pl hlc
      obtain ⟨hN4, hq4, hM4⟩ := altOk_sizes hok
      have hini := altOk_init hok
      obtain ⟨run, hrun⟩ : ∃ run, runB a.states l = run := ⟨_, rfl⟩
      unfold altAcc at hR
      rw [hrun] at hR
      obtain ⟨N, hNe⟩ : ∃ N, a.states.length = N := ⟨_, rfl⟩
      obtain ⟨L, hL⟩ : ∃ L, plN l = L := ⟨_, rfl⟩
      have HLC := Lib.hid hlc
      have HRUNS : Hid (∀ w', Below w.heap.size w w' → Calls Tryd.prog 35 #[.agg #[.slice a1 q cap1, va2], .agg #[vp, vq]] w' fun e w'' => ∃ g, e = .returned (.slice (some ⟨g, 0, none⟩) N N) ∧ TabR w''.heap.size w'' (.slice (some ⟨g, 0, none⟩) N N) N L N run ∧ Below w'.heap.size w' w'') := fun w' h => by
        have := runsFn11 a l _ _ w' ((HA.out.below h).mono h.size) ((HLAS.out.below h).mono h.size) hok hlc
        unfold RunsOut at this
        rw [hNe, hL, hrun] at this
        exact this
      rw [hL] at hp0 hp4
      rw [hNe] at hN4 hini
      rw [HQ.out] at hq4
      have HINI := Lib.hid hini
      have hp0' : (0 : Int) < (L : Int) := by omega
      have HR0 : Hid (R = (a.init.drop 0).any fun q => q.all fun s => run s.toNat 0) := hR.symm
      clear hr hR hok hlc hini hrun hNe hL hM4
      go_enter Tryd.func18, Tryd.ntmps18
      go_wp2_with (first
        | (go_at_call 35; refine (HRUNS.out _ HB4.out).mono ?_; rintro e w5 ⟨g5, rfl, hT5, hb'⟩; have HT5 := Lib.hid hT5; have HB5 := Lib.hid (HB4.out.trans (hb'.mono HB4.out.size)); have hG5 := HG4.out.belowAll hb'; have HG5 := Lib.hid hG5; clear hb' hT5 hG5)
        | (go_at_call 10; refine (refLassoCheck l _ _ ((HLAS.out.below HB3.out).mono HB3.out.size) hb3).mono ?_; rintro e w4 ⟨rfl, hb'⟩; rw [HLC.out]; have HB4 := Lib.hid (HB3.out.trans (hb'.mono HB3.out.size)); have hG4 := HG3.out.belowAll hb'; have HG4 := Lib.hid hG4; have hL4 := HL3.out.belowAll hb'; have x0 := hG4.cell 0; have x1 := hG4.cell 1; have y0 := hL4.cell 0; have y1 := hL4.cell 1; simp only [List.getElem?_cons_zero, List.getElem?_cons_succ] at x0 x1 y0 y1; clear hb' hL4 hG4)
        | (go_at_call 17; refine (refAlt a (.agg #[.slice a1 q cap1, va2]) _ ((HA.out.below HB0.out).mono HB0.out.size) hb hb2).mono ?_; rintro e w3 ⟨rfl, hb'⟩; rw [HC.out]; have HB3 := Lib.hid (HB0.out.trans (hb'.mono HB0.out.size)); have hG3 := HG0.out.belowAll hb'; have HG3 := Lib.hid hG3; have hL3 := HL0.out.belowAll hb'; have HL3 := Lib.hid hL3; have x0 := hG3.cell 0; have x1 := hG3.cell 1; have y0 := hL3.cell 0; have y1 := hL3.cell 1; simp only [List.getElem?_cons_zero, List.getElem?_cons_succ] at x0 x1 y0 y1; clear hb' hG3 hL3))
      generalize hbL : w.heap.size + 1 = bL at *
      obtain ⟨W5, rfl⟩ : ∃ W, W = w5 := ⟨w5, rfl⟩
      clear x0 x1 y0 y1
      go_loopw [8] (fun y wr => ∃ i : Nat, y = .int .i64 (i : Int) ∧ i ≤ q ∧ Hid (R = (a.init.drop i).any fun q => q.all fun s => run s.toNat 0) ∧ wr = W5) (fun y _ => (q + 10 - intOf y).toNat)
      case atStart => exact ⟨0, rfl, Nat.zero_le _, HR0, rfl⟩
      case round =>
        clear HR0
        obtain ⟨i, rfl, hi, HR, rfl⟩ := hrel
        have x0 := HG5.out.cell 0
        simp only [List.getElem?_cons_zero] at x0
        by_cases hiq : i < q
        · have hiq' : (i : Int) < (q : Int) := by omega
          obtain ⟨ys, hyq⟩ : ∃ y, a.init[i]? = some y := ⟨_, List.getElem?_eq_getElem (by rw [HQ.out]; exact hiq)⟩
          obtain ⟨gb, o, u, rfl, hgb, hcell, hu⟩ := (HII.out.below HB5.out).at (k := i) (by rw [HQ.out]; exact hiq)
          rw [(List.getElem?_eq_some_iff.1 hyq).2] at hu
          have hdr := drop_at hyq
          have hset := HINI.out ys (List.mem_of_getElem? hyq)
          obtain ⟨a3, cap3, rfl, hc3, hm3⟩ := hu.form
          obtain ⟨p, hpl⟩ : ∃ p, ys.length = p := ⟨_, rfl⟩
          rw [hpl] at hc3 hcell hu
          obtain ⟨PV, hPV⟩ : ∃ PV, (ys.all fun s => run s.toNat 0) = PV := ⟨_, rfl⟩
          have HRR : Hid (R = (PV || (a.init.drop (i + 1)).any fun q => q.all fun s => run s.toNat 0)) := by
            show _ = _
            rw [HR.out, hdr, List.any_cons, hPV]
          have HP0 : Hid (PV = (true && (ys.drop 0).all fun s => run s.toNat 0)) := by
            show _ = _
            rw [← hPV, List.drop_zero, Bool.true_and]
          have HPL := Lib.hid hpl
          have HU := Lib.hid hu
          have HSET := Lib.hid hset
          clear hdr hPV hpl hu hset hyq HR
          go_wp2
          go_loopw [9, 10] (fun x y wz => ∃ (Al : Bool) (k : Nat), x = .bool Al ∧ y = .int .i64 (k : Int) ∧ k ≤ p ∧ Hid (PV = (Al && (ys.drop k).all fun s => run s.toNat 0)) ∧ wz = wr) (fun _ y _ => (p + 10 - intOf y).toNat)
          case atStart => exact ⟨true, 0, rfl, rfl, Nat.zero_le _, HP0, rfl⟩
          case round =>
            clear HP0
            obtain ⟨Al, k, rfl, rfl, hk, HP, hwz⟩ := hrel
            subst hwz
            by_cases hkp : k < p
            · have hkp' : (k : Int) < (p : Int) := by omega
              obtain ⟨s, hsq⟩ : ∃ s, ys[k]? = some s := ⟨_, List.getElem?_eq_getElem (by rw [HPL.out]; exact hkp)⟩
              obtain ⟨g6, o6, rfl, hg6, hc6⟩ := HU.out.at (k := k) (by rw [HPL.out]; exact hkp)
              rw [(List.getElem?_eq_some_iff.1 hsq).2] at hc6
              have hdk := drop_at hsq
              obtain ⟨hs0, hsN⟩ := HSET.out.2 s (List.mem_of_getElem? hsq)
              obtain ⟨sn, rfl⟩ : ∃ sn : Nat, s = (sn : Int) := ⟨s.toNat, by omega⟩
              have hsN2 : sn < N := by omega
              obtain ⟨g7, o7, cap7, e7, hc7, hg7, hr7⟩ := HT5.out
              injection e7 with e7 _ e8
              injection e7 with e7
              injection e7 with e7 e9
              subst e7 e8 e9
              obtain ⟨g2, o2, c2, r1, r2, r3, r4⟩ := hr7 sn hsN2
              have r5 := r4 0 hp0
              rw [Nat.zero_add] at r1
              rw [Nat.add_zero] at r5
              obtain ⟨b, hbb⟩ : ∃ b, run sn 0 = b := ⟨_, rfl⟩
              rw [hbb] at r5
              have HP' : Hid (PV = ((Al && b) && (ys.drop (k + 1)).all fun s => run s.toNat 0)) := by
                show _ = _
                rw [HP.out, hdk, List.all_cons, Int.toNat_natCast, hbb, Bool.and_assoc]
              clear hsq hdk HP r4 hbb hr7
              cases Al with
              | true =>
                have HP' : Hid (PV = (b && (ys.drop (k + 1)).all fun s => run s.toNat 0)) := by
                  show _ = _
                  rw [HP'.out, Bool.true_and]
                go_wp2
                exact ⟨⟨b, k + 1, rfl, rfl, by omega, HP', trivial⟩, by simp [intOf]; omega⟩
              | false =>
                have HP' : Hid (PV = (false && (ys.drop (k + 1)).all fun s => run s.toNat 0)) := by
                  show _ = _
                  rw [HP'.out, Bool.false_and]
                go_wp2
                exact ⟨⟨false, k + 1, rfl, rfl, by omega, HP', trivial⟩, by simp [intOf]; omega⟩
            · have hkp' : decide ((k : Int) < (p : Int)) = false := decide_eq_false (by omega)
              have hpv : PV = Al := by rw [HP.out, List.drop_eq_nil_of_le (by rw [HPL.out]; omega)]; simp
              cases Al with
              | true =>
                have hres : R = true := by rw [HRR.out, hpv]; rfl
                subst hres
                clear hpv HP
                go_wp2
                go_ret2
                exact ⟨rfl, HB5.out⟩
              | false =>
                have HR' : Hid (R = (a.init.drop (i + 1)).any fun q => q.all fun s => run s.toNat 0) := by
                  show _ = _
                  rw [HRR.out, hpv, Bool.false_or]
                clear hpv HP
                go_wp2
                exact ⟨⟨i + 1, rfl, by omega, HR', trivial⟩, by simp [intOf]; omega⟩
        · have hiq' : decide ((i : Int) < (q : Int)) = false := decide_eq_false (by omega)
          have hres : R = false := by rw [HR.out, List.drop_eq_nil_of_le (by rw [HQ.out]; omega)]; rfl
          subst hres
          go_wp2
          go_ret2
          exact ⟨rfl, HB5.out⟩
    · have hr : altRes a l = (100, false) := by unfold altRes; rw [hok, if_pos rfl, if_neg (by omega), hlc]
      have HLC := Lib.hid hlc
      rw [hr]
      clear hr hok hlc
      go_enter Tryd.func18, Tryd.ntmps18
      go_wp2_with (first
        | (go_at_call 10; refine (refLassoCheck l _ _ ((HLAS.out.below HB3.out).mono HB3.out.size) hb3).mono ?_; rintro e w4 ⟨rfl, hb'⟩; rw [HLC.out]; have HB4 := Lib.hid (HB3.out.trans (hb'.mono HB3.out.size)); clear hb')
        | (go_at_call 17; refine (refAlt a (.agg #[.slice a1 q cap1, va2]) _ ((HA.out.below HB0.out).mono HB0.out.size) hb hb2).mono ?_; rintro e w3 ⟨rfl, hb'⟩; rw [HC.out]; have HB3 := Lib.hid (HB0.out.trans (hb'.mono HB0.out.size)); have hL3 := HL0.out.belowAll hb'; have y0 := hL3.cell 0; have y1 := hL3.cell 1; simp only [List.getElem?_cons_zero, List.getElem?_cons_succ] at y0 y1; clear hb' hL3))
      go_ret2
      exact ⟨rfl, HB4.out⟩
end Go.Proofs.YtelanndleinabaaDoor
