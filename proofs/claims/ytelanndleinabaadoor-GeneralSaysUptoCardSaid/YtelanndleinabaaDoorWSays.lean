/- The walk of GeneralSays. -/
import Derived.Test.YtelanndleinabaaDoorRAcc11
import Derived.Test.YtelanndleinabaaDoorSaysL
import Derived.Test.YtelanndleinabaaDoorRAcc
import Derived.Test.YtelanndleinabaaDoorOf
import Derived.Test.YtelanndleinabaaDoorKnown
namespace Go.Proofs.YtelanndleinabaaDoor
open Go.RowKit
set_option linter.unusedVariables false

theorem genAt_shape {B : Nat} {w : World} {v : Value} {g : Gen} (h : GenAt B w v g) : ∃ a5 c5 a6 c6, v = .agg #[.int .i64 g.sets, .slice a5 g.init.length c5, .slice a6 g.states.length c6] := by
  obtain ⟨v1, v2, rfl, hs, hi, hst⟩ := h
  obtain ⟨a5, cp5, rfl, hc5, hm5⟩ := hi.form
  obtain ⟨a6, cp6, rfl, hc6, hm6⟩ := hst.form
  exact ⟨a5, cp5, a6, cp6, rfl⟩
theorem altAt_step {a : Alt} {v : Value} {w w' : World} (h : AltAt w.heap.size w v a) (hb : Below w.heap.size w w') : AltAt w'.heap.size w' v a := (h.below hb).mono hb.size
theorem genOk_small {g : Gen} (h : genOk g = true) : (g.states.map List.length).sum ≤ 4000000 ∧ genN g ≤ 4000000 := by
  unfold genOk at h
  simp only [Bool.and_eq_true, decide_eq_true_eq] at h
  unfold genN
  omega
theorem altAt_w {B : Nat} {w : World} {v : Value} {a : Alt} (h : AltAt B w v a) : ∀ s ∈ a.states, ∀ m ∈ s.2, MvW m := by
  obtain ⟨x, y, _, _, ⟨ps, h1, _, h3⟩⟩ := h
  intro s hs m hm
  rw [← h1] at hs
  obtain ⟨sp, hsp, rfl⟩ := List.mem_map.1 hs
  obtain ⟨qs, k1, _, k3⟩ := h3 sp hsp
  rw [← k1] at hm
  obtain ⟨p, hp, rfl⟩ := List.mem_map.1 hm
  exact (k3 p hp).2
theorem altRes_zero {a : Alt} {l : Las} (h : (altRes a l).1 = 0) : altOk a = true ∧ lasCode l = 0 ∧ (altRes a l).2 = altAcc a l := by
  unfold altRes at *
  cases hok : altOk a with
  | false => rw [hok] at h; simp at h
  | true =>
    simp only [hok, if_true] at h ⊢
    by_cases hl : lasCode l = 0
    · rw [if_pos hl]; exact ⟨trivial, hl, rfl⟩
    · rw [if_neg hl] at h; exact absurd h hl

set_option maxHeartbeats 8000000 in
set_option maxRecDepth 100000 in
theorem lawSays (a : Alt) (l : Las) (va vl : Value) (w : World) (hA : AltAt w.heap.size w va a) (hl : LasAt w.heap.size w vl l) (hb : a.init.length + movesN a.states ≤ 4000000) (hb2 : a.states.length ≤ 4000000) (hb3 : l.pre.length + l.loop.length ≤ 4000000) :
    Calls Tryd.prog 5 #[va, vl] w fun e w' => e = .returned (.bool true) ∧ Below w.heap.size w w' := by
  have HA := Lib.hid hA
  have HL := Lib.hid hl
  have HWV := Lib.hid (altAt_w hA)
  obtain ⟨x, y, rfl, hx, hy⟩ := hA
  obtain ⟨vp, vq, rfl, hp, hq⟩ := hl
  have hB0 : Below w.heap.size w ((w.alloc (.cells #[x, y] 39)).alloc (.cells #[vp, vq] 28)) := ((Below.refl _ _).alloc (Nat.le_refl _) _).alloc (by simp) _
  have hG0 := (Holds.new w 39 #[x, y]).alloc (.cells #[vp, vq] 28)
  have hL0 : Holds ((w.alloc (.cells #[x, y] 39)).alloc (.cells #[vp, vq] 28)) (w.heap.size + 1) 28 [vp, vq] := holds_at (k := w.heap.size + 1) (by simp) 28 #[vp, vq]
  have c0 := hG0.cell 0
  have c1 := hG0.cell 1
  simp only [List.getElem?_cons_zero, List.getElem?_cons_succ] at c0 c1
  have HB0 := Lib.hid hB0
  have HG0 := Lib.hid hG0
  have HL0 := Lib.hid hL0
  have HS := Lib.hid (sizeFn a (.agg #[x, y]) _ (altAt_step HA.out hB0) hb)
  have hmv : movesN a.states ≤ 4000000 := by omega
  obtain ⟨n, hn⟩ : ∃ n, a.states.length = n := ⟨_, rfl⟩
  obtain ⟨q, hq'⟩ : ∃ q, a.init.length + movesN a.states = q := ⟨_, rfl⟩
  have HREF : Hid (∀ w', Below w.heap.size w w' → Calls Tryd.prog 18 #[.agg #[x, y], .agg #[vp, vq]] w' fun e w'' => e = .returned (.tuple #[.bool (altRes a l).2, .int .i64 ((altRes a l).1 : Int)]) ∧ Below w'.heap.size w' w'') := fun w' h =>
    refAcc11 a l _ _ w' ((HA.out.below h).mono h.size) ((HL.out.below h).mono h.size) hmv hb2 hb3
  rw [hn, hq'] at HS
  rw [hq'] at hb
  rw [hn] at hb2
  have HMV := Lib.hid hmv
  have HN := Lib.hid hn
  have HQ := Lib.hid hq'
  obtain ⟨C, hC⟩ : ∃ C, (altRes a l).1 = C := ⟨_, rfl⟩
  obtain ⟨B, hB⟩ : ∃ B, (altRes a l).2 = B := ⟨_, rfl⟩
  rw [hC, hB] at HREF
  clear hq' hx hy hp hq hB0 hG0 hL0 hn hmv
  by_cases hC0 : C = 0
  · subst hC0
    by_cases hbig : ¬ (n ≤ 12 ∧ q ≤ 60)
    · have hcs : (12 : Int) < (n : Int) ∨ (decide ((12 : Int) < (n : Int)) = false ∧ (60 : Int) < (q : Int)) := by
        by_cases h : n ≤ 12
        · exact .inr ⟨decide_eq_false (by omega), by omega⟩
        · exact .inl (by omega)
      clear hbig hC hB
      rcases hcs with h1 | ⟨h1, h2⟩
      all_goals
        go_enter Tryd.func5, Tryd.ntmps5
        go_wp2_with (first
          | (go_at_call 12; refine (knownFn _).mono ?_; rintro e wc ⟨rfl, hb'⟩; have HBz := Lib.hid (HB2.out.trans (hb'.mono HB2.out.size)); clear hb')
          | (go_at_call 18; refine (HREF.out _ HB1.out).mono ?_; rintro e w2 ⟨rfl, hb'⟩; have HB2 := Lib.hid (HB1.out.trans (hb'.mono HB1.out.size)); have hG2 := HG1.out.belowAll hb'; have HG2 := Lib.hid hG2; have hL2 := HL1.out.belowAll hb'; have HL2 := Lib.hid hL2; have c0 := hG2.cell 0; have c1 := hG2.cell 1; have d0 := hL2.cell 0; have d1 := hL2.cell 1; simp only [List.getElem?_cons_zero, List.getElem?_cons_succ] at c0 c1 d0 d1; clear hb' hG2 hL2)
          | (go_at_call 15; refine (HS.out).mono ?_; rintro e w1 ⟨rfl, hb'⟩; have HB1 := Lib.hid (HB0.out.trans (hb'.mono HB0.out.size)); have hG1 := HG0.out.belowAll hb'; have HG1 := Lib.hid hG1; have hL1 := HL0.out.belowAll hb'; have HL1 := Lib.hid hL1; have c0 := hG1.cell 0; have c1 := hG1.cell 1; have d0 := hL1.cell 0; have d1 := hL1.cell 1; simp only [List.getElem?_cons_zero, List.getElem?_cons_succ] at c0 c1 d0 d1; clear hb' hG1 hL1))
        go_ret
        exact ⟨rfl, HBz.out⟩
    · obtain ⟨h1, h2⟩ := Decidable.not_not.1 hbig
      clear hbig
      have k1 : decide ((12 : Int) < (n : Int)) = false := decide_eq_false (by omega)
      have k2 : decide ((60 : Int) < (q : Int)) = false := decide_eq_false (by omega)
      have hN1 : a.states.length ≤ 100 := by have := HN.out; omega
      have HN1 := Lib.hid hN1
      obtain ⟨hok, hlc, hbe⟩ := altRes_zero hC
      rw [hB] at hbe
      obtain ⟨p, hp⟩ : ∃ p, ofOut a = p := ⟨_, rfl⟩
      obtain ⟨cO, gO⟩ := p
      have hgok : genOk gO = true := by have := ofOut_ok a; rw [hp] at this; exact this
      have HP := Lib.hid hp
      have hcode := ofOut_code hok
      rw [hp] at hcode
      simp only at hcode
      rcases hcode with e1 | ⟨e1, _, e2⟩
      · subst e1
        have hres : ofRes a = some gO := by
          unfold ofOut at hp
          rw [if_pos hok] at hp
          cases hr : ofRes a with
          | none => rw [hr] at hp; injection hp with hp; cases hp
          | some g => rw [hr] at hp; injection hp with _ hp; rw [hp]
        have HEQ : Hid (∀ b, AccPost 0 gO l b → b = B) := fun b hb => by
          have h1 := ofRes_says hok hlc HWV.out hres
          rw [hbe]
          exact Bool.eq_iff_iff.2 ⟨fun h => h1.1 (hb.1 h).2, fun h => hb.2 ⟨rfl, h1.2 h⟩⟩
        have HAC : Hid (accCode gO l = 0) := by show _ = _; unfold accCode; rw [if_pos hgok]; exact hlc
        obtain ⟨hgs, hgn⟩ := genOk_small hgok
        have HGS := Lib.hid hgs
        have HGN2 := Lib.hid hgn
        obtain ⟨T, hT⟩ : ∃ T, littleB gO l = T := ⟨_, rfl⟩
        have HT := Lib.hid hT
        cases T with
        | true =>
          have HLIT : Hid (genOk gO = true → lasCode l = 0 → littleB gO l = true) := fun _ _ => hT
          clear hok hlc hbe hp hgok hres hgs hgn hT hN1 hC hB
          go_enter Tryd.func5, Tryd.ntmps5
          go_wp2_with (first
            | (go_at_call 12; refine (knownFn _).mono ?_; rintro e wc ⟨rfl, hb'⟩; have HBz := Lib.hid (HB6.out.trans (hb'.mono HB6.out.size)); clear hb')
            | (go_at_call 13; refine (refAccepts gO l _ _ _ HGN5.out (HL.out.step HB5.out) HGS.out hb3 HLIT.out).mono ?_; rintro e w6 ⟨b2, rfl, hp2, hb'⟩; rw [HAC.out] at hp2 ⊢; obtain rfl : b2 = b1 := HEQ.out b2 hp2; have HB6 := Lib.hid (HB5.out.trans (hb'.mono HB5.out.size)); clear hb' hp2)
            | (go_at_call 11; refine (littleFn gO l _ _ _ HGN4.out (HL.out.step HB4.out) HGN2.out hb3).mono ?_; rintro e w5 ⟨rfl, hb'⟩; rw [HT.out]; have HB5 := Lib.hid (HB4.out.trans (hb'.mono HB4.out.size)); have HGN5 := Lib.hid (HGN4.out.step hb'); have hGa := HGa4.out.belowAll hb'; have hLa := HLa4.out.belowAll hb'; have e0 := hGa.cell 0; have e1 := hGa.cell 1; have e2 := hGa.cell 2; have d0 := hLa.cell 0; have d1 := hLa.cell 1; simp only [List.getElem?_cons_zero, List.getElem?_cons_succ] at e0 e1 e2 d0 d1; clear hb' hGa hLa)
            | (go_at_call 14; refine (genAccepts gO l _ _ _ HGN.out (HL.out.step HB3.out) HGS.out hb3).mono ?_; rintro e w4 ⟨b1, rfl, hp1, hb'⟩; rw [HAC.out] at hp1 ⊢; obtain rfl : b1 = B := HEQ.out b1 hp1; have HB4 := Lib.hid (HB3.out.trans (hb'.mono HB3.out.size)); have HGN4 := Lib.hid (HGN.out.step hb'); have hGa := HGa.out.belowAll hb'; have HGa4 := Lib.hid hGa; have hLa := HLa.out.belowAll hb'; have HLa4 := Lib.hid hLa; have e0 := hGa.cell 0; have e1 := hGa.cell 1; have e2 := hGa.cell 2; have d0 := hLa.cell 0; have d1 := hLa.cell 1; simp only [List.getElem?_cons_zero, List.getElem?_cons_succ] at e0 e1 e2 d0 d1; clear hb' hp1 hGa hLa)
            | (go_at_call 16; refine (ofFn a (.agg #[x, y]) _ (altAt_step HA.out HB2.out) HMV.out HN1.out).mono ?_; rintro e w3 ⟨vg, rfl, hga, hb'⟩; rw [HP.out] at hga ⊢; simp only at hga ⊢; obtain ⟨a5, c5, a6, c6, rfl⟩ := genAt_shape hga; have hal := (Below.refl w3.heap.size w3).alloc (Nat.le_refl _) (.cells #[.int .i64 gO.sets, .slice a5 gO.init.length c5, .slice a6 gO.states.length c6] 25); have HGN := Lib.hid (hga.step hal); have hGa := Holds.new w3 25 #[.int .i64 gO.sets, .slice a5 gO.init.length c5, .slice a6 gO.states.length c6]; have HGa := Lib.hid hGa; have hLa := (HL2.out.belowAll hb').alloc (.cells #[.int .i64 gO.sets, .slice a5 gO.init.length c5, .slice a6 gO.states.length c6] 25); have HLa := Lib.hid hLa; have HB3 := Lib.hid ((HB2.out.trans (hb'.mono HB2.out.size)).trans (hal.mono (HB2.out.trans (hb'.mono HB2.out.size)).size)); have e0 := hGa.cell 0; have e1 := hGa.cell 1; have e2 := hGa.cell 2; have d0 := hLa.cell 0; have d1 := hLa.cell 1; simp only [List.getElem?_cons_zero, List.getElem?_cons_succ] at e0 e1 e2 d0 d1; clear hb' hga hal hGa hLa)
            | (go_at_call 18; refine (HREF.out _ HB1.out).mono ?_; rintro e w2 ⟨rfl, hb'⟩; have HB2 := Lib.hid (HB1.out.trans (hb'.mono HB1.out.size)); have hG2 := HG1.out.belowAll hb'; have HG2 := Lib.hid hG2; have hL2 := HL1.out.belowAll hb'; have HL2 := Lib.hid hL2; have c0 := hG2.cell 0; have c1 := hG2.cell 1; have d0 := hL2.cell 0; have d1 := hL2.cell 1; simp only [List.getElem?_cons_zero, List.getElem?_cons_succ] at c0 c1 d0 d1; clear hb' hG2 hL2)
            | (go_at_call 15; refine (HS.out).mono ?_; rintro e w1 ⟨rfl, hb'⟩; have HB1 := Lib.hid (HB0.out.trans (hb'.mono HB0.out.size)); have hG1 := HG0.out.belowAll hb'; have HG1 := Lib.hid hG1; have hL1 := HL0.out.belowAll hb'; have HL1 := Lib.hid hL1; have c0 := hG1.cell 0; have c1 := hG1.cell 1; have d0 := hL1.cell 0; have d1 := hL1.cell 1; simp only [List.getElem?_cons_zero, List.getElem?_cons_succ] at c0 c1 d0 d1; clear hb' hG1 hL1))
          go_ret
          exact ⟨rfl, HBz.out⟩
        | false =>
          clear hok hlc hbe hp hgok hres hgs hgn hT hN1 hC hB
          go_enter Tryd.func5, Tryd.ntmps5
          go_wp2_with (first
            | (go_at_call 12; refine (knownFn _).mono ?_; rintro e wc ⟨rfl, hb'⟩; have HBz := Lib.hid (HB5.out.trans (hb'.mono HB5.out.size)); clear hb')
            | (go_at_call 11; refine (littleFn gO l _ _ _ HGN4.out (HL.out.step HB4.out) HGN2.out hb3).mono ?_; rintro e w5 ⟨rfl, hb'⟩; rw [HT.out]; have HB5 := Lib.hid (HB4.out.trans (hb'.mono HB4.out.size)); have HGN5 := Lib.hid (HGN4.out.step hb'); have hGa := HGa4.out.belowAll hb'; have hLa := HLa4.out.belowAll hb'; have e0 := hGa.cell 0; have e1 := hGa.cell 1; have e2 := hGa.cell 2; have d0 := hLa.cell 0; have d1 := hLa.cell 1; simp only [List.getElem?_cons_zero, List.getElem?_cons_succ] at e0 e1 e2 d0 d1; clear hb' hGa hLa)
            | (go_at_call 14; refine (genAccepts gO l _ _ _ HGN.out (HL.out.step HB3.out) HGS.out hb3).mono ?_; rintro e w4 ⟨b1, rfl, hp1, hb'⟩; rw [HAC.out] at hp1 ⊢; obtain rfl : b1 = B := HEQ.out b1 hp1; have HB4 := Lib.hid (HB3.out.trans (hb'.mono HB3.out.size)); have HGN4 := Lib.hid (HGN.out.step hb'); have hGa := HGa.out.belowAll hb'; have HGa4 := Lib.hid hGa; have hLa := HLa.out.belowAll hb'; have HLa4 := Lib.hid hLa; have e0 := hGa.cell 0; have e1 := hGa.cell 1; have e2 := hGa.cell 2; have d0 := hLa.cell 0; have d1 := hLa.cell 1; simp only [List.getElem?_cons_zero, List.getElem?_cons_succ] at e0 e1 e2 d0 d1; clear hb' hp1 hGa hLa)
            | (go_at_call 16; refine (ofFn a (.agg #[x, y]) _ (altAt_step HA.out HB2.out) HMV.out HN1.out).mono ?_; rintro e w3 ⟨vg, rfl, hga, hb'⟩; rw [HP.out] at hga ⊢; simp only at hga ⊢; obtain ⟨a5, c5, a6, c6, rfl⟩ := genAt_shape hga; have hal := (Below.refl w3.heap.size w3).alloc (Nat.le_refl _) (.cells #[.int .i64 gO.sets, .slice a5 gO.init.length c5, .slice a6 gO.states.length c6] 25); have HGN := Lib.hid (hga.step hal); have hGa := Holds.new w3 25 #[.int .i64 gO.sets, .slice a5 gO.init.length c5, .slice a6 gO.states.length c6]; have HGa := Lib.hid hGa; have hLa := (HL2.out.belowAll hb').alloc (.cells #[.int .i64 gO.sets, .slice a5 gO.init.length c5, .slice a6 gO.states.length c6] 25); have HLa := Lib.hid hLa; have HB3 := Lib.hid ((HB2.out.trans (hb'.mono HB2.out.size)).trans (hal.mono (HB2.out.trans (hb'.mono HB2.out.size)).size)); have e0 := hGa.cell 0; have e1 := hGa.cell 1; have e2 := hGa.cell 2; have d0 := hLa.cell 0; have d1 := hLa.cell 1; simp only [List.getElem?_cons_zero, List.getElem?_cons_succ] at e0 e1 e2 d0 d1; clear hb' hga hal hGa hLa)
            | (go_at_call 18; refine (HREF.out _ HB1.out).mono ?_; rintro e w2 ⟨rfl, hb'⟩; have HB2 := Lib.hid (HB1.out.trans (hb'.mono HB1.out.size)); have hG2 := HG1.out.belowAll hb'; have HG2 := Lib.hid hG2; have hL2 := HL1.out.belowAll hb'; have HL2 := Lib.hid hL2; have c0 := hG2.cell 0; have c1 := hG2.cell 1; have d0 := hL2.cell 0; have d1 := hL2.cell 1; simp only [List.getElem?_cons_zero, List.getElem?_cons_succ] at c0 c1 d0 d1; clear hb' hG2 hL2)
            | (go_at_call 15; refine (HS.out).mono ?_; rintro e w1 ⟨rfl, hb'⟩; have HB1 := Lib.hid (HB0.out.trans (hb'.mono HB0.out.size)); have hG1 := HG0.out.belowAll hb'; have HG1 := Lib.hid hG1; have hL1 := HL0.out.belowAll hb'; have HL1 := Lib.hid hL1; have c0 := hG1.cell 0; have c1 := hG1.cell 1; have d0 := hL1.cell 0; have d1 := hL1.cell 1; simp only [List.getElem?_cons_zero, List.getElem?_cons_succ] at c0 c1 d0 d1; clear hb' hG1 hL1))
          go_ret
          exact ⟨rfl, HBz.out⟩
      · subst e1
        clear hok hlc hbe hp hgok hN1 hC hB e2
        go_enter Tryd.func5, Tryd.ntmps5
        go_wp2_with (first
          | (go_at_call 12; refine (knownFn _).mono ?_; rintro e wc ⟨rfl, hb'⟩; have HBz := Lib.hid (HB3.out.trans (hb'.mono HB3.out.size)); clear hb')
          | (go_at_call 16; refine (ofFn a (.agg #[x, y]) _ (altAt_step HA.out HB2.out) HMV.out HN1.out).mono ?_; rintro e w3 ⟨vg, rfl, hga, hb'⟩; rw [HP.out] at hga ⊢; simp only at hga ⊢; obtain ⟨a5, c5, a6, c6, rfl⟩ := genAt_shape hga; have hal := (Below.refl w3.heap.size w3).alloc (Nat.le_refl _) (.cells #[.int .i64 gO.sets, .slice a5 gO.init.length c5, .slice a6 gO.states.length c6] 25); have HGN := Lib.hid (hga.step hal); have hGa := Holds.new w3 25 #[.int .i64 gO.sets, .slice a5 gO.init.length c5, .slice a6 gO.states.length c6]; have HGa := Lib.hid hGa; have hLa := (HL2.out.belowAll hb').alloc (.cells #[.int .i64 gO.sets, .slice a5 gO.init.length c5, .slice a6 gO.states.length c6] 25); have HLa := Lib.hid hLa; have HB3 := Lib.hid ((HB2.out.trans (hb'.mono HB2.out.size)).trans (hal.mono (HB2.out.trans (hb'.mono HB2.out.size)).size)); have e0 := hGa.cell 0; have e1 := hGa.cell 1; have e2 := hGa.cell 2; have d0 := hLa.cell 0; have d1 := hLa.cell 1; simp only [List.getElem?_cons_zero, List.getElem?_cons_succ] at e0 e1 e2 d0 d1; clear hb' hga hal hGa hLa)
          | (go_at_call 18; refine (HREF.out _ HB1.out).mono ?_; rintro e w2 ⟨rfl, hb'⟩; have HB2 := Lib.hid (HB1.out.trans (hb'.mono HB1.out.size)); have hG2 := HG1.out.belowAll hb'; have HG2 := Lib.hid hG2; have hL2 := HL1.out.belowAll hb'; have HL2 := Lib.hid hL2; have c0 := hG2.cell 0; have c1 := hG2.cell 1; have d0 := hL2.cell 0; have d1 := hL2.cell 1; simp only [List.getElem?_cons_zero, List.getElem?_cons_succ] at c0 c1 d0 d1; clear hb' hG2 hL2)
          | (go_at_call 15; refine (HS.out).mono ?_; rintro e w1 ⟨rfl, hb'⟩; have HB1 := Lib.hid (HB0.out.trans (hb'.mono HB0.out.size)); have hG1 := HG0.out.belowAll hb'; have HG1 := Lib.hid hG1; have hL1 := HL0.out.belowAll hb'; have HL1 := Lib.hid hL1; have c0 := hG1.cell 0; have c1 := hG1.cell 1; have d0 := hL1.cell 0; have d1 := hL1.cell 1; simp only [List.getElem?_cons_zero, List.getElem?_cons_succ] at c0 c1 d0 d1; clear hb' hG1 hL1))
        go_ret
        exact ⟨rfl, HBz.out⟩
  · have f1 : ((C : Int) == 0) = false := by simp; exact hC0
    have f2 : ¬ ((C : Int) = 0) := by omega
    clear hC hB
    go_enter Tryd.func5, Tryd.ntmps5
    go_wp2_with (first
      | (go_at_call 12; refine (knownFn _).mono ?_; rintro e wc ⟨rfl, hb'⟩; have HBz := Lib.hid (HB2.out.trans (hb'.mono HB2.out.size)); clear hb')
      | (go_at_call 18; refine (HREF.out _ HB1.out).mono ?_; rintro e w2 ⟨rfl, hb'⟩; have HB2 := Lib.hid (HB1.out.trans (hb'.mono HB1.out.size)); have hG2 := HG1.out.belowAll hb'; have HG2 := Lib.hid hG2; have hL2 := HL1.out.belowAll hb'; have HL2 := Lib.hid hL2; have c0 := hG2.cell 0; have c1 := hG2.cell 1; have d0 := hL2.cell 0; have d1 := hL2.cell 1; simp only [List.getElem?_cons_zero, List.getElem?_cons_succ] at c0 c1 d0 d1; clear hb' hG2 hL2)
      | (go_at_call 15; refine (HS.out).mono ?_; rintro e w1 ⟨rfl, hb'⟩; have HB1 := Lib.hid (HB0.out.trans (hb'.mono HB0.out.size)); have hG1 := HG0.out.belowAll hb'; have HG1 := Lib.hid hG1; have hL1 := HL0.out.belowAll hb'; have HL1 := Lib.hid hL1; have c0 := hG1.cell 0; have c1 := hG1.cell 1; have d0 := hL1.cell 0; have d1 := hL1.cell 1; simp only [List.getElem?_cons_zero, List.getElem?_cons_succ] at c0 c1 d0 d1; clear hb' hG1 hL1))
    go_ret
    exact ⟨rfl, HBz.out⟩
end Go.Proofs.YtelanndleinabaaDoor
