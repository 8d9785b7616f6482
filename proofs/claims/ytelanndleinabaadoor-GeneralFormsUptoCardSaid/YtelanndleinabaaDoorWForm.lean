/- The walk of GeneralForms. -/
import Derived.Test.YtelanndleinabaaDoorRAlt
import Derived.Test.YtelanndleinabaaDoorFormP
import Derived.Test.YtelanndleinabaaDoorSize
import Derived.Test.YtelanndleinabaaDoorKnown
namespace Go.Proofs.YtelanndleinabaaDoor
open Go.RowKit
set_option linter.unusedVariables false

theorem GenAt.form {B : Nat} {w : World} {v : Value} {g : Gen} (h : GenAt B w v g) : ∃ a5 c5 a6 c6, v = .agg #[.int .i64 g.sets, .slice a5 g.init.length c5, .slice a6 g.states.length c6] := by
  obtain ⟨v1, v2, rfl, hs, hi, hst⟩ := h
  obtain ⟨a5, cp5, rfl, hc5, hm5⟩ := hi.form
  obtain ⟨a6, cp6, rfl, hc6, hm6⟩ := hst.form
  exact ⟨a5, cp5, a6, cp6, rfl⟩
theorem GenAt.formNil {B : Nat} {w : World} {v : Value} (h : GenAt B w v nilG) : ∃ a5 c5 a6 c6, v = .agg #[.int .i64 0, .slice a5 0 c5, .slice a6 0 c6] := GenAt.form h
theorem AltAt.step {a : Alt} {v : Value} {w w' : World} (h : AltAt w.heap.size w v a) (hb : Below w.heap.size w w') : AltAt w'.heap.size w' v a := (h.below hb).mono hb.size
theorem genOk_sum' {g : Gen} (h : genOk g = true) : (g.states.map List.length).sum ≤ 4000000 := by
  unfold genOk at h
  simp only [Bool.and_eq_true, decide_eq_true_eq] at h
  omega

set_option maxHeartbeats 8000000 in
set_option maxRecDepth 100000 in
theorem lawForms (a : Alt) (v : Value) (w : World) (hA : AltAt w.heap.size w v a) (hb : a.init.length + movesN a.states ≤ 4000000) (hb2 : a.states.length ≤ 4000000) :
    Calls Tryd.prog 4 #[v] w fun e w' => e = .returned (.bool true) ∧ Below w.heap.size w w' := by
  have HA := Lib.hid hA
  obtain ⟨x, y, rfl, hx, hy⟩ := hA
  have hB0 : Below w.heap.size w (w.alloc (.cells #[x, y] 39)) := (Below.refl _ _).alloc (Nat.le_refl _) _
  have hG0 := Holds.new w 39 #[x, y]
  have HB0 := Lib.hid hB0
  have HG0 := Lib.hid hG0
  have c0 := hG0.cell 0
  have c1 := hG0.cell 1
  simp only [List.getElem?_cons_zero, List.getElem?_cons_succ] at c0 c1
  have HS := Lib.hid (sizeFn a (.agg #[x, y]) _ (HA.out.step hB0) hb)
  obtain ⟨n, hn⟩ : ∃ n, a.states.length = n := ⟨_, rfl⟩
  obtain ⟨q, hq⟩ : ∃ q, a.init.length + movesN a.states = q := ⟨_, rfl⟩
  rw [hn, hq] at HS
  rw [hq] at hb
  rw [hn] at hb2
  have HN := Lib.hid hn
  have HQ := Lib.hid hq
  clear hn hq hx hy hB0 hG0
  by_cases hbig : ¬ (n ≤ 60 ∧ q ≤ 300)
  · have hcs : (60 : Int) < (n : Int) ∨ (decide ((60 : Int) < (n : Int)) = false ∧ (300 : Int) < (q : Int)) := by
      by_cases h : n ≤ 60
      · exact .inr ⟨decide_eq_false (by omega), by omega⟩
      · exact .inl (by omega)
    clear hbig
    rcases hcs with h1 | ⟨h1, h2⟩
    all_goals
      go_enter Tryd.func4, Tryd.ntmps4
      go_wp2_with (first
        | (go_at_call 12; refine (knownFn _).mono ?_; rintro e wc ⟨rfl, hb'⟩; have HBz := Lib.hid (HB1.out.trans (hb'.mono HB1.out.size)); clear hb')
        | (go_at_call 15; refine (HS.out).mono ?_; rintro e w1 ⟨rfl, hb'⟩; have HB1 := Lib.hid (HB0.out.trans (hb'.mono HB0.out.size)); clear hb'))
      go_ret
      exact ⟨rfl, HBz.out⟩
  · obtain ⟨h1, h2⟩ := Decidable.not_not.1 hbig
    clear hbig
    have k1 : decide ((60 : Int) < (n : Int)) = false := decide_eq_false (by omega)
    have k2 : decide ((300 : Int) < (q : Int)) = false := decide_eq_false (by omega)
    have hmv : movesN a.states ≤ 4000000 := by have := HQ.out; omega
    have hN1 : a.states.length ≤ 100 := by have := HN.out; omega
    have hN2 : a.states.length ≤ 4000000 := by omega
    have HMV := Lib.hid hmv
    have HN1 := Lib.hid hN1
    have HN2 := Lib.hid hN2
    clear hmv hN1 hN2
    obtain ⟨A, hAA⟩ : ∃ A, altOk a = A := ⟨_, rfl⟩
    obtain ⟨p, hp⟩ : ∃ p, ofOut a = p := ⟨_, rfl⟩
    obtain ⟨cO, gO⟩ := p
    have hgok : genOk gO = true := by have := ofOut_ok a; rw [hp] at this; exact this
    have HGOK := Lib.hid hgok
    have HP := Lib.hid hp
    cases A with
    | false =>
      have e := ofOut_bad hAA
      rw [hp] at e
      injection e with e1 e2
      subst e1
      subst e2
      have HC : Hid (altCode a = 110) := by show _ = _; unfold altCode; rw [hAA]; rfl
      clear hAA hp hgok
      go_enter Tryd.func4, Tryd.ntmps4
      go_wp2_with (first
        | (go_at_call 12; refine (knownFn _).mono ?_; rintro e wc ⟨rfl, hb'⟩; have HBz := Lib.hid (HB3.out.trans (hb'.mono HB3.out.size)); clear hb')
        | (go_at_call 17; refine (refAlt a (.agg #[x, y]) _ (HA.out.step HBa.out) HMV.out HN2.out).mono ?_; rintro e w3 ⟨rfl, hb'⟩; rw [HC.out]; have HB3 := Lib.hid (HBa.out.trans (hb'.mono HBa.out.size)); have HG3 := Lib.hid ((HGN.out.step HBn.out).step hb'); have hg3 := HGa.out.belowAll hb'; have d0 := hg3.cell 0; have d1 := hg3.cell 1; have d2 := hg3.cell 2; simp only [List.getElem?_cons_zero, List.getElem?_cons_succ] at d0 d1 d2; clear hb' hg3)
        | (go_at_call 16; refine (ofFn a (.agg #[x, y]) _ (HA.out.step HB1.out) HMV.out HN1.out).mono ?_; rintro e w2 ⟨vg, rfl, hga, hb'⟩; rw [HP.out] at hga ⊢; simp only at hga ⊢; obtain ⟨a5, c5, a6, c6, rfl⟩ := GenAt.formNil hga; skip; have HGN := Lib.hid hga; have HGa := Lib.hid (Holds.new w2 25 #[.int .i64 0, .slice a5 0 c5, .slice a6 0 c6]); have HBn := Lib.hid ((Below.refl w2.heap.size w2).alloc (Nat.le_refl _) (.cells #[.int .i64 0, .slice a5 0 c5, .slice a6 0 c6] 25)); have HB2 := Lib.hid (HB1.out.trans (hb'.mono HB1.out.size)); have HBa := Lib.hid (HB2.out.trans (HBn.out.mono HB2.out.size)); have hA2 := (HG1.out.belowAll hb').alloc (.cells #[.int .i64 0, .slice a5 0 c5, .slice a6 0 c6] 25); have c0 := hA2.cell 0; have c1 := hA2.cell 1; simp only [List.getElem?_cons_zero, List.getElem?_cons_succ] at c0 c1; clear hb' hga hA2)
        | (go_at_call 15; refine (HS.out).mono ?_; rintro e w1 ⟨rfl, hb'⟩; have HB1 := Lib.hid (HB0.out.trans (hb'.mono HB0.out.size)); have hG1 := HG0.out.belowAll hb'; have HG1 := Lib.hid hG1; have c0 := hG1.cell 0; have c1 := hG1.cell 1; simp only [List.getElem?_cons_zero, List.getElem?_cons_succ] at c0 c1; clear hb' hG1))
      go_ret
      exact ⟨rfl, HBz.out⟩
    | true =>
      have HC : Hid (altCode a = 0) := by show _ = _; unfold altCode; rw [hAA]; rfl
      have hcode := ofOut_code hAA
      rw [hp] at hcode
      simp only at hcode
      rcases hcode with e1 | ⟨e1, hno, e2⟩
      · subst e1
        have HGC : Hid (genCode gO = 0) := by show _ = _; unfold genCode; rw [hgok]; rfl
        clear hAA hp hgok
        go_enter Tryd.func4, Tryd.ntmps4
        go_wp2_with (first
          | (go_at_call 12; refine (knownFn _).mono ?_; rintro e wc ⟨rfl, hb'⟩; have HBz := Lib.hid (HB4.out.trans (hb'.mono HB4.out.size)); clear hb')
          | (go_at_call 8; refine (refCheck gO _ _ HG3.out (genOk_sum' HGOK.out)).mono ?_; rintro e w4 ⟨rfl, hb'⟩; rw [HGC.out]; have HB4 := Lib.hid (HB3.out.trans (hb'.mono HB3.out.size)); clear hb')
          | (go_at_call 17; refine (refAlt a (.agg #[x, y]) _ (HA.out.step HBa.out) HMV.out HN2.out).mono ?_; rintro e w3 ⟨rfl, hb'⟩; rw [HC.out]; have HB3 := Lib.hid (HBa.out.trans (hb'.mono HBa.out.size)); have HG3 := Lib.hid ((HGN.out.step HBn.out).step hb'); have hg3 := HGa.out.belowAll hb'; have d0 := hg3.cell 0; have d1 := hg3.cell 1; have d2 := hg3.cell 2; simp only [List.getElem?_cons_zero, List.getElem?_cons_succ] at d0 d1 d2; clear hb' hg3)
          | (go_at_call 16; refine (ofFn a (.agg #[x, y]) _ (HA.out.step HB1.out) HMV.out HN1.out).mono ?_; rintro e w2 ⟨vg, rfl, hga, hb'⟩; rw [HP.out] at hga ⊢; simp only at hga ⊢; obtain ⟨a5, c5, a6, c6, rfl⟩ := GenAt.form hga; skip; have HGN := Lib.hid hga; have HGa := Lib.hid (Holds.new w2 25 #[.int .i64 gO.sets, .slice a5 gO.init.length c5, .slice a6 gO.states.length c6]); have HBn := Lib.hid ((Below.refl w2.heap.size w2).alloc (Nat.le_refl _) (.cells #[.int .i64 gO.sets, .slice a5 gO.init.length c5, .slice a6 gO.states.length c6] 25)); have HB2 := Lib.hid (HB1.out.trans (hb'.mono HB1.out.size)); have HBa := Lib.hid (HB2.out.trans (HBn.out.mono HB2.out.size)); have hA2 := (HG1.out.belowAll hb').alloc (.cells #[.int .i64 gO.sets, .slice a5 gO.init.length c5, .slice a6 gO.states.length c6] 25); have c0 := hA2.cell 0; have c1 := hA2.cell 1; simp only [List.getElem?_cons_zero, List.getElem?_cons_succ] at c0 c1; clear hb' hga hA2)
          | (go_at_call 15; refine (HS.out).mono ?_; rintro e w1 ⟨rfl, hb'⟩; have HB1 := Lib.hid (HB0.out.trans (hb'.mono HB0.out.size)); have hG1 := HG0.out.belowAll hb'; have HG1 := Lib.hid hG1; have c0 := hG1.cell 0; have c1 := hG1.cell 1; simp only [List.getElem?_cons_zero, List.getElem?_cons_succ] at c0 c1; clear hb' hG1))
        go_ret
        exact ⟨rfl, HBz.out⟩
      · subst e1
        subst e2
        have hno2 : (5 : Int) < (n : Int) ∨ (decide ((5 : Int) < (n : Int)) = false ∧ (12 : Int) < (q : Int)) := by
          have := HN.out
          have := HQ.out
          by_cases h : n ≤ 5
          · exact .inr ⟨decide_eq_false (by omega), by have := fun z => hno ⟨by omega, z⟩; omega⟩
          · exact .inl (by omega)
        clear hAA hp hgok hno
        rcases hno2 with h5 | ⟨h5, h12⟩
        all_goals
          go_enter Tryd.func4, Tryd.ntmps4
          go_wp2_with (first
            | (go_at_call 12; refine (knownFn _).mono ?_; rintro e wc ⟨rfl, hb'⟩; have HBz := Lib.hid (HB3.out.trans (hb'.mono HB3.out.size)); clear hb')
            | (go_at_call 17; refine (refAlt a (.agg #[x, y]) _ (HA.out.step HBa.out) HMV.out HN2.out).mono ?_; rintro e w3 ⟨rfl, hb'⟩; rw [HC.out]; have HB3 := Lib.hid (HBa.out.trans (hb'.mono HBa.out.size)); have HG3 := Lib.hid ((HGN.out.step HBn.out).step hb'); have hg3 := HGa.out.belowAll hb'; have d0 := hg3.cell 0; have d1 := hg3.cell 1; have d2 := hg3.cell 2; simp only [List.getElem?_cons_zero, List.getElem?_cons_succ] at d0 d1 d2; clear hb' hg3)
            | (go_at_call 16; refine (ofFn a (.agg #[x, y]) _ (HA.out.step HB1.out) HMV.out HN1.out).mono ?_; rintro e w2 ⟨vg, rfl, hga, hb'⟩; rw [HP.out] at hga ⊢; simp only at hga ⊢; obtain ⟨a5, c5, a6, c6, rfl⟩ := GenAt.formNil hga; skip; have HGN := Lib.hid hga; have HGa := Lib.hid (Holds.new w2 25 #[.int .i64 0, .slice a5 0 c5, .slice a6 0 c6]); have HBn := Lib.hid ((Below.refl w2.heap.size w2).alloc (Nat.le_refl _) (.cells #[.int .i64 0, .slice a5 0 c5, .slice a6 0 c6] 25)); have HB2 := Lib.hid (HB1.out.trans (hb'.mono HB1.out.size)); have HBa := Lib.hid (HB2.out.trans (HBn.out.mono HB2.out.size)); have hA2 := (HG1.out.belowAll hb').alloc (.cells #[.int .i64 0, .slice a5 0 c5, .slice a6 0 c6] 25); have c0 := hA2.cell 0; have c1 := hA2.cell 1; simp only [List.getElem?_cons_zero, List.getElem?_cons_succ] at c0 c1; clear hb' hga hA2)
            | (go_at_call 15; refine (HS.out).mono ?_; rintro e w1 ⟨rfl, hb'⟩; have HB1 := Lib.hid (HB0.out.trans (hb'.mono HB0.out.size)); have hG1 := HG0.out.belowAll hb'; have HG1 := Lib.hid hG1; have c0 := hG1.cell 0; have c1 := hG1.cell 1; simp only [List.getElem?_cons_zero, List.getElem?_cons_succ] at c0 c1; clear hb' hG1))
          go_ret
          exact ⟨rfl, HBz.out⟩
end Go.Proofs.YtelanndleinabaaDoor
