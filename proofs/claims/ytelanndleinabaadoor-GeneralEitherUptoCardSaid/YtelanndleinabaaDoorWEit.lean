/- The walk of GeneralEither. -/
import Derived.Test.YtelanndleinabaaDoorRAcc
import Derived.Test.YtelanndleinabaaDoorEitS
import Derived.Deep.RegionHeld3
namespace Go.Proofs.YtelanndleinabaaDoor
open Go.RowKit
set_option linter.unusedVariables false

set_option maxHeartbeats 16000000 in
set_option maxRecDepth 100000 in
theorem lawEither (g : Gen) (l : Las) (vg vl : Value) (w : World) (hg : GenAt w.heap.size w vg g) (hl : LasAt w.heap.size w vl l) (hb : (g.states.map List.length).sum ≤ 2000000) (hb1 : g.states.length ≤ 2000000) (hb2 : l.pre.length + l.loop.length ≤ 4000000) :
    Calls Tryd.prog 7 #[vg, vl] w fun e w' => e = .returned (.bool true) ∧ Below w.heap.size w w' := by
  have HG := Lib.hid hg
  have HL := Lib.hid hl
  obtain ⟨va, vb, rfl, hs, ha, hbb⟩ := hg
  obtain ⟨a1, cap1, rfl, hc1, hm1⟩ := ha.form
  obtain ⟨a2, cap2, rfl, hc2, hm2⟩ := hbb.form
  obtain ⟨vp, vq, rfl, hp, hq⟩ := hl
  obtain ⟨a3, cap3, rfl, hc3, hm3⟩ := hp.form
  obtain ⟨a4, cap4, rfl, hc4, hm4⟩ := hq.form
  obtain ⟨n, hne⟩ : ∃ n, g.states.length = n := ⟨_, rfl⟩
  obtain ⟨il, hile⟩ : ∃ il, g.init.length = il := ⟨_, rfl⟩
  obtain ⟨p1, hp1⟩ : ∃ p1, l.pre.length = p1 := ⟨_, rfl⟩
  obtain ⟨p2, hp2⟩ : ∃ p2, l.loop.length = p2 := ⟨_, rfl⟩
  obtain ⟨S, hS⟩ : ∃ S, g.sets = S := ⟨_, rfl⟩
  have HI := Lib.hid ha
  have HS := Lib.hid hbb
  rw [hile] at HI
  rw [hne] at HS
  rw [hne, hile, hS] at HG
  rw [hp1, hp2] at HL
  rw [hp1, hp2, hne, hile, hS]
  have hsum : (g.states.map List.length).sum ≤ 4000000 := by omega
  have hgn : genN g ≤ 4000000 := by unfold genN; omega
  have hB0 : Below w.heap.size w ((w.alloc (.cells #[.int .i64 S, .slice a1 il cap1, .slice a2 n cap2] 25)).alloc (.cells #[.slice a3 p1 cap3, .slice a4 p2 cap4] 28)) := ((Below.refl _ _).alloc (Nat.le_refl _) _).alloc (by simp) _
  have hG0 : Holds ((w.alloc (.cells #[.int .i64 S, .slice a1 il cap1, .slice a2 n cap2] 25)).alloc (.cells #[.slice a3 p1 cap3, .slice a4 p2 cap4] 28)) w.heap.size 25 [.int .i64 S, .slice a1 il cap1, .slice a2 n cap2] := (Holds.new w 25 #[.int .i64 S, .slice a1 il cap1, .slice a2 n cap2]).alloc _
  have hL0 : Holds ((w.alloc (.cells #[.int .i64 S, .slice a1 il cap1, .slice a2 n cap2] 25)).alloc (.cells #[.slice a3 p1 cap3, .slice a4 p2 cap4] 28)) (w.heap.size + 1) 28 [.slice a3 p1 cap3, .slice a4 p2 cap4] := holds_at (k := w.heap.size + 1) (by simp) 28 #[.slice a3 p1 cap3, .slice a4 p2 cap4]
  have c0 := hG0.cell 0
  have c1 := hG0.cell 1
  have c2 := hG0.cell 2
  simp only [List.getElem?_cons_zero, List.getElem?_cons_succ] at c0 c1 c2
  have HB0 := Lib.hid hB0
  have HG0 := Lib.hid hG0
  have HL0 := Lib.hid hL0
  have HGc := Lib.hid hG0
  have HLc := Lib.hid hL0
  have HBc := Lib.hid hB0
  have HNE := Lib.hid hne
  have HIL := Lib.hid hile
  have HSE := Lib.hid hS
  clear hB0 hG0 hL0 HB0 HG0 HL0 hs ha hbb hp hq hne hile hp1 hp2 hS
  obtain ⟨K, hK⟩ : ∃ K, accCode g l = K := ⟨_, rfl⟩
  obtain ⟨T, hT⟩ : ∃ T, littleB g l = T := ⟨_, rfl⟩
  by_cases hK0 : K = 0
  · subst hK0
    cases T with
    | true =>
      go_enter Tryd.func7, Tryd.ntmps7
      go_wp2_with (first
      | (go_at_call 11; refine (littleFn g l _ _ _ (HG.out.step HBc.out) (HL.out.step HBc.out) hgn hb2).mono ?_; rintro e wc ⟨rfl, hb'⟩; rw [hT]; have HGc := Lib.hid (HGc.out.belowAll hb'); have HLc := Lib.hid (HLc.out.belowAll hb'); have HBc := Lib.hid (HBc.out.trans (hb'.mono HBc.out.size)); have d0 := HGc.out.cell 0; have d1 := HGc.out.cell 1; have d2 := HGc.out.cell 2; have d3 := HLc.out.cell 0; have d4 := HLc.out.cell 1; simp only [List.getElem?_cons_zero, List.getElem?_cons_succ] at d0 d1 d2 d3 d4; clear hb')
      | (go_at_call 12; refine (knownFn _).mono ?_; rintro e wc ⟨rfl, hb'⟩; have HGc := Lib.hid (HGc.out.belowAll hb'); have HLc := Lib.hid (HLc.out.belowAll hb'); have HBc := Lib.hid (HBc.out.trans (hb'.mono HBc.out.size)); have d0 := HGc.out.cell 0; have d1 := HGc.out.cell 1; have d2 := HGc.out.cell 2; have d3 := HLc.out.cell 0; have d4 := HLc.out.cell 1; simp only [List.getElem?_cons_zero, List.getElem?_cons_succ] at d0 d1 d2 d3 d4; clear hb')
      | (go_at_call 14; refine (genAccepts g l _ _ _ (HG.out.step HBc.out) (HL.out.step HBc.out) hsum hb2).mono ?_; rintro e wc ⟨b1, rfl, hp1, hb'⟩; rw [hK]; rw [hK] at hp1; have HGc := Lib.hid (HGc.out.belowAll hb'); have HLc := Lib.hid (HLc.out.belowAll hb'); have HBc := Lib.hid (HBc.out.trans (hb'.mono HBc.out.size)); have d0 := HGc.out.cell 0; have d1 := HGc.out.cell 1; have d2 := HGc.out.cell 2; have d3 := HLc.out.cell 0; have d4 := HLc.out.cell 1; simp only [List.getElem?_cons_zero, List.getElem?_cons_succ] at d0 d1 d2 d3 d4; clear hb'))
      have hok : genOk g = true := by
        cases h : genOk g with
        | true => rfl
        | false => unfold accCode at hK; rw [h] at hK; simp at hK
      have hlc : lasCode l = 0 := by unfold accCode at hK; rw [if_pos hok] at hK; exact hK
      have hac1 : ∀ s ∈ g.init, accCode (oneG g s) l = 0 := fun s hs => by unfold accCode; rw [if_pos (genOk_one hok hs)]; exact hlc
      have HIS : Hid (b1 = true ↔ accP g l) := ⟨fun h => (hp1.1 h).2, fun h => hp1.2 ⟨rfl, h⟩⟩
      have HAC1 := Lib.hid hac1
      obtain ⟨hp0, hpi, hpm⟩ := genOk_parts hok
      have HOK := Lib.hid hok
      have HPI := Lib.hid hpi
      have HPM := Lib.hid hpm
      have hn6 : n ≤ 4096 := by rw [← HNE.out]; exact hp0.2.2.1
      have hil4 : il ≤ 4096 := by rw [← HIL.out]; exact hp0.2.2.2
      have hc1' : il ≤ cap1 := by rw [← HIL.out]; exact hc1
      have hS0 : 0 ≤ S ∧ S ≤ 60 := by rw [← HSE.out]; exact ⟨hp0.1, hp0.2.1⟩
      clear hac1 hok hpi hpm hp0 hp1 d0 d1 d2 d3 d4 c0 c1 c2
      obtain ⟨Wc, rfl⟩ : ∃ W, W = wc := ⟨wc, rfl⟩
      generalize hbl : w.heap.size + 1 = bl at *
      have H0 : Hid (false = true ↔ ∃ s ∈ g.init.take 0, accP (oneG g s) l) := ⟨fun h => (by cases h), fun ⟨s, h, _⟩ => (by simp at h)⟩
      go_loopw [7, 8] (fun z y wr => ∃ (i : Nat) (b : Bool), y = .int .i64 (i : Int) ∧ z = .bool b ∧ i ≤ il ∧ i ≤ 50 ∧ Hid (b = true ↔ ∃ s ∈ g.init.take i, accP (oneG g s) l) ∧ Hid (Below Wc.heap.size Wc wr)) (fun _ y _ => (il + 10 - intOf y).toNat)
      case atStart => exact ⟨0, false, rfl, rfl, Nat.zero_le _, by omega, H0, Below.refl _ _⟩
      case round =>
        clear H0
        obtain ⟨i, b, rfl, rfl, hi, hi5, HB, HBr⟩ := hrel
        obtain ⟨W1, rfl⟩ : ∃ W, W = wr := ⟨wr, rfl⟩
        have hG1 := HGc.out.belowAll HBr.out
        have hL1 := HLc.out.belowAll HBr.out
        have d0 := hG1.cell 0
        have d1 := hG1.cell 1
        have d2 := hG1.cell 2
        have d3 := hL1.cell 0
        have d4 := hL1.cell 1
        simp only [List.getElem?_cons_zero, List.getElem?_cons_succ] at d0 d1 d2 d3 d4
        have HB1 : Hid (Below w.heap.size w W1) := HBc.out.trans (HBr.out.mono HBc.out.size)
        have HG1 := Lib.hid hG1
        have HL1 := Lib.hid hL1
        clear hG1 hL1
        by_cases hin : i < il ∧ i < 50
        · obtain ⟨hin, hi50⟩ := hin
          have hin' : (i : Int) < (il : Int) := by omega
          have hi50' : (i : Int) < 50 := by omega
          obtain ⟨gi, oi, hai, hgi, hci⟩ := HI.out.1.at (by rw [HIL.out]; omega)
          subst hai
          have hsq : g.init[i]? = some (g.init[i]'(by rw [HIL.out]; exact hin)) := List.getElem?_eq_getElem _
          have hcell : w.cell? ⟨gi, oi + i, none⟩ = some (.int .i64 (g.init[i]'(by rw [HIL.out]; exact hin))) := by
            rw [hci i (by rw [HIL.out]; omega)]
            unfold ints
            rw [List.getElem?_map, hsq]; rfl
          have htk := take_at hsq
          have hmem := List.mem_of_getElem? hsq
          have hsb := HI.out.2 _ hmem
          generalize g.init[i]'(by rw [HIL.out]; exact hin) = s0 at hsq hcell htk hmem hsb
          have hwi : IntKind.i64.wrap ((i : Int) + 1) = ((i + 1 : Nat) : Int) := by rw [wrap_small (by omega) (by omega)]; omega
          have HCA : Hid (∀ w', Below W1.heap.size W1 w' → Calls Tryd.prog 14 #[.agg #[.int .i64 S, .slice (some ⟨gi, oi + i, none⟩) 1 (cap1 - i), .slice a2 n cap2], .agg #[.slice a3 p1 cap3, .slice a4 p2 cap4]] w' fun e w'' => AccOut 0 (oneG g s0) l w' e w'') := fun w' hw' => by
            have hb := HB1.out.trans (hw'.mono HB1.out.size)
            have hgen : GenAt w'.heap.size w' (.agg #[.int .i64 S, .slice (some ⟨gi, oi + i, none⟩) 1 (cap1 - i), .slice a2 n cap2]) (oneG g s0) := by
              have hS' : (oneG g s0).sets = S := HSE.out
              refine ⟨.slice (some ⟨gi, oi + i, none⟩) 1 (cap1 - i), .slice a2 n cap2, by rw [hS'], by rw [hS']; omega, ⟨⟨some ⟨gi, oi + i, none⟩, cap1 - i, rfl, by show 1 ≤ _; omega, by unfold maxLen; omega, rfl, (fun h => by cases h), fun _ => ⟨gi, oi + i, rfl, Nat.lt_of_lt_of_le hgi hb.size, fun j hj => ?_⟩⟩, fun x hx => ?_⟩, ?_⟩
              · have hj0 : j = 0 := by
                  have : j < 1 * 1 := hj
                  omega
                subst hj0
                rw [Nat.add_zero, cell_below hb hgi, hcell]; rfl
              · have : x = s0 := by simpa [oneG] using hx
                subst this
                exact hsb
              · have := (HS.out.below hb).mono hb.size
                exact this
            have := genAccepts (oneG g s0) l _ _ w' hgen (HL.out.step hb) hsum hb2
            rw [HAC1.out s0 hmem] at this
            exact this
          have hC : Hid (∀ w', Below W1.heap.size W1 w' → (fun w' : World => Below W1.heap.size W1 w' ∧ w'.cell? ⟨w.heap.size, 0, none⟩ = some (.int .i64 S) ∧ w'.cell? ⟨w.heap.size, 1, none⟩ = some (.slice (some ⟨gi, oi, none⟩) il cap1) ∧ w'.cell? ⟨w.heap.size, 2, none⟩ = some (.slice a2 n cap2) ∧ w'.cell? ⟨bl, 0, none⟩ = some (.slice a3 p1 cap3) ∧ w'.cell? ⟨bl, 1, none⟩ = some (.slice a4 p2 cap4)) w') := fun w' h => by
            have h1 := HG1.out.belowAll h
            have h2 := HL1.out.belowAll h
            exact ⟨h, h1.cell 0, h1.cell 1, h1.cell 2, h2.cell 0, h2.cell 1⟩
          clear hsq hcell hci hsb
          have hle : (i : Int) ≤ (cap1 : Int) := by omega
          have hle1 : ((i + 1 : Nat) : Int) ≤ (cap1 : Int) := by omega
          have hle2 : (i : Int) + 1 ≤ (cap1 : Int) := by omega
          have hle3 : (0 : Int) ≤ (i : Int) := by omega
          have hle4 : (i : Int) ≤ (i : Int) + 1 := by omega
          have hle5 : (0 : Int) ≤ (i : Int) + 1 := by omega
          have hne1 : ¬ cap1 = i := by omega
          go_wp2
          go_region_held3 (fun w' : World => Below W1.heap.size W1 w' ∧ w'.cell? ⟨w.heap.size, 0, none⟩ = some (.int .i64 S) ∧ w'.cell? ⟨w.heap.size, 1, none⟩ = some (.slice (some ⟨gi, oi, none⟩) il cap1) ∧ w'.cell? ⟨w.heap.size, 2, none⟩ = some (.slice a2 n cap2) ∧ w'.cell? ⟨bl, 0, none⟩ = some (.slice a3 p1 cap3) ∧ w'.cell? ⟨bl, 1, none⟩ = some (.slice a4 p2 cap4)) (first | exact hC.out _ (Below.refl _ _).drew | exact hS5.out) (first
            | (go_at_call 14; refine (HCA.out _ (Below.refl _ _).drew).mono ?_; rintro e w5 ⟨b2, rfl, hp2, hb5⟩; have HB5 : Hid (Below W1.heap.size W1 w5) := ((Below.refl _ _).drew.trans hb5); have hS5 := Lib.hid (hC.out _ HB5.out); have HP2 := Lib.hid hp2; clear hb5 hp2))
          all_goals (
            have HBr5 : Hid (Below Wc.heap.size Wc w5) := HBr.out.trans (HB5.out.mono HBr.out.size)
            cases b with
            | true =>
              have HB' : Hid (true = true ↔ ∃ s ∈ g.init.take (i + 1), accP (oneG g s) l) := ⟨fun _ => (by
                obtain ⟨s, h1, h2⟩ := HB.out.1 rfl
                rw [htk]
                exact ⟨s, List.mem_append_left _ h1, h2⟩), fun _ => rfl⟩
              clear htk hmem
              go_wp2
              go_roundw
              case rel => first | exact ⟨i + 1, true, rfl, rfl, by omega, by omega, HB', HBr5⟩ | ((repeat apply Exists.intro); exact ⟨⟨i + 1, true, rfl, rfl, by omega, by omega, HB', HBr5⟩, rfl⟩)
              case measure => simp [intOf]; omega
            | false =>
              have HB' : Hid (b2 = true ↔ ∃ s ∈ g.init.take (i + 1), accP (oneG g s) l) := ⟨fun h => (by
                rw [htk]
                exact ⟨s0, by simp, (HP2.out.1 h).2⟩), fun ⟨s, h1, h2⟩ => (by
                rw [htk] at h1
                rcases List.mem_append.1 h1 with h | h
                · exact absurd (HB.out.2 ⟨s, h, h2⟩) (by simp)
                · rw [List.mem_singleton] at h
                  subst h
                  exact HP2.out.2 ⟨rfl, h2⟩)⟩
              clear htk hmem
              go_wp2
              go_roundw
              case rel => first | exact ⟨i + 1, b2, rfl, rfl, by omega, by omega, HB', HBr5⟩ | ((repeat apply Exists.intro); exact ⟨⟨i + 1, b2, rfl, rfl, by omega, by omega, HB', HBr5⟩, rfl⟩)
              case measure => simp [intOf]; omega)
        · have hend : (i = il ∧ b = b1) ∨ (i < il ∧ i = 50 ∧ 50 < il) := by
            by_cases h : i < il
            · exact .inr ⟨h, by omega, by omega⟩
            · refine .inl ⟨by omega, ?_⟩
              have hie : g.init.take i = g.init := List.take_of_length_le (by rw [HIL.out]; omega)
              have := HB.out
              rw [hie] at this
              exact Bool.eq_iff_iff.2 (this.trans (accP_one.symm.trans HIS.out.symm))
          rcases hend with ⟨hie, hbe⟩ | ⟨hil, hi5e, h50⟩
          · have hin' : decide ((i : Int) < (il : Int)) = false := decide_eq_false (by omega)
            have hbe' := hbe.symm
            subst hbe'
            have hbb : (b1 != b1) = false := by simp
            have hwx : True := trivial
            by_cases hSz : S = 0
            · have hS1 : (S == 0) = true := by simp [hSz]
              subst hSz
              go_wp2_with (go_at_call 12; refine (knownFn _).mono ?_; rintro e wc ⟨rfl, hb'⟩; have HBz := Lib.hid (HB1.out.trans (hb'.mono HB1.out.size)))
              go_ret
              exact ⟨rfl, HBz.out⟩
            · have hS1 : (S == 0) = false := by simp; exact hSz
              obtain ⟨k, hk⟩ : ∃ k : Nat, S = (k : Int) + 1 := ⟨(S - 1).toNat, by omega⟩
              have hsub : IntKind.i64.wrap (S - 1) = (k : Int) := by rw [hk, show (k : Int) + 1 - 1 = (k : Int) by omega, wrap_small (by omega) (by omega)]
              have hk60 : k < 60 := by omega
              have HK1 := Lib.hid hk
              clear hk hSz
              obtain ⟨STS, hSTS⟩ : ∃ STS, g.states.map (List.map (mapM (clr k))) = STS := ⟨_, rfl⟩
              have hSTl : STS.length = n := by rw [← hSTS, List.length_map, HNE.out]
              have HSTS := Lib.hid hSTS
              have HSTL := Lib.hid hSTl
              have hal2 : Below W1.heap.size W1 (W1.alloc (.cells #[.int .i64 (k : Int), .slice a1 il cap1, .slice none 0 0] 25)) := (Below.refl _ _).alloc (Nat.le_refl _) _
              have HM2 := Lib.hid (Holds.new W1 25 #[.int .i64 (k : Int), .slice a1 il cap1, .slice none 0 0])
              have HB2 := Lib.hid hal2
              have HO2 : Hid (OwnG W1.heap.size (W1.alloc (.cells #[.int .i64 (k : Int), .slice a1 il cap1, .slice none 0 0] 25)) (.slice none 0 0) (STS.take 0)) := OwnG.nil _ _
              clear hSTS hSTl hal2
              go_wp2
              go_loopw [12] (fun y wr => ∃ (i : Nat) (vst : Value), y = .int .i64 (i : Int) ∧ i ≤ n ∧ Hid (Holds wr W1.heap.size 25 [.int .i64 (k : Int), .slice a1 il cap1, vst]) ∧ Hid (OwnG W1.heap.size wr vst (STS.take i)) ∧ Hid (Below W1.heap.size W1 wr)) (fun y _ => (n + 10 - intOf y).toNat)
              case atStart => exact ⟨0, _, rfl, Nat.zero_le _, HM2, HO2, HB2⟩
              case round =>
                clear HM2 HO2 HB2
                clear d0 d1 d2 d3 d4
                obtain ⟨i, vst, rfl, hi, HM, HO, HBr⟩ := hrel
                obtain ⟨W3, rfl⟩ : ∃ W, W = wr := ⟨wr, rfl⟩
                have hG3 := HG1.out.belowAll HBr.out
                have hL3 := HL1.out.belowAll HBr.out
                have d0 := hG3.cell 0
                have d2 := hG3.cell 2
                have d3 := hL3.cell 0
                have d4 := hL3.cell 1
                simp only [List.getElem?_cons_zero, List.getElem?_cons_succ] at d0 d2 d3 d4
                have HB3 : Hid (Below w.heap.size w W3) := HB1.out.trans (HBr.out.mono HB1.out.size)
                have HG3 := Lib.hid hG3
                have htl : (STS.take i).length = i := by rw [List.length_take, HSTL.out]; omega
                obtain ⟨asl, csl, rfl, hcsl, hmsl⟩ := HO.out.form
                rw [htl] at HO HM hcsl
                clear hG3 hL3
                by_cases hin : i < n
                · have hin2 : (i : Int) < (n : Int) := by omega
                  obtain ⟨gs, os, us, rfl, hgs, e0, hus⟩ := (HS.out.below HB3.out).at (k := i) (by rw [HNE.out]; exact hin)
                  have hsq : g.states[i]? = some (g.states[i]'(by rw [HNE.out]; exact hin)) := List.getElem?_eq_getElem _
                  have hsm : ∀ m ∈ g.states[i]'(by rw [HNE.out]; exact hin), m.sets < 2 ^ (k + 1) := fun m hm => by
                    have := genOk_sets HOK.out _ (List.mem_of_getElem? hsq) m hm
                    rw [HSE.out, show S.toNat = k + 1 by have := HK1.out; omega] at this
                    exact this
                  have hml4 := (HPM.out _ (List.mem_of_getElem? hsq)).1
                  have htq : STS[i]? = some ((g.states[i]'(by rw [HNE.out]; exact hin)).map (mapM (clr k))) := by rw [← HSTS.out, List.getElem?_map, hsq]; rfl
                  have htk := take_at htq
                  generalize g.states[i]'(by rw [HNE.out]; exact hin) = ms at hus hsq hsm hml4 htq htk
                  obtain ⟨a6, cap6, rfl, hc6, hm6⟩ := hus.form
                  obtain ⟨ml, hmle⟩ : ∃ ml, ms.length = ml := ⟨_, rfl⟩
                  rw [hmle] at e0 hus hc6 hml4
                  have HML := Lib.hid hmle
                  have HUS := Lib.hid hus
                  have HSM := Lib.hid hsm
                  have HTK := Lib.hid htk
                  have hwi3 : IntKind.i64.wrap ((i : Int) + 1) = ((i + 1 : Nat) : Int) := by rw [wrap_small (by omega) (by omega)]; omega
                  have HR0 : Hid (W3.ownsRow W3.heap.size 53 4 (.slice none 0 0) 0 (mvs ((ms.take 0).map (mapM (clr k))))) := World.ownsRow_nil _ _ _ _
                  clear hmle hus hsq hsm htq htk
                  go_wp2
                  go_loopw [13, 14] (fun u y wr => ∃ j : Nat, y = .int .i64 (j : Int) ∧ j ≤ ml ∧ Hid (wr.ownsRow W3.heap.size 53 4 u j (mvs ((ms.take j).map (mapM (clr k))))) ∧ Hid (Below W3.heap.size W3 wr)) (fun _ y _ => (ml + 10 - intOf y).toNat)
                  case atStart => exact ⟨0, rfl, Nat.zero_le _, HR0, Below.refl _ _⟩
                  case round =>
                    clear HR0
                    obtain ⟨j, rfl, hj, HR, HBx⟩ := hrel
                    obtain ⟨W4, rfl⟩ : ∃ W, W = wr := ⟨wr, rfl⟩
                    obtain ⟨ar, cr, rfl, hcr, hmr⟩ := owns_form HR.out
                    have HBw4 : Hid (Below w.heap.size W3 W4) := HBx.out.mono HB3.out.size
                    have hG4 := HG3.out.belowAll HBx.out
                    have x0 := hG4.cell 0
                    have x2 := hG4.cell 2
                    have x3 : W4.cell? ⟨gs, os + i, none⟩ = some (.slice a6 ml cap6) := (cell_below HBw4.out hgs _).trans e0
                    simp only [List.getElem?_cons_zero, List.getElem?_cons_succ] at x0 x2
                    by_cases hjm : j < ml
                    · have hjm' : (j : Int) < (ml : Int) := by omega
                      obtain ⟨g6, o6, rfl, hg6, m0, m1, m2, m3⟩ := (HUS.out.below HBw4.out).at (k := j) (by rw [HML.out]; exact hjm)
                      have hmq : ms[j]? = some (ms[j]'(by rw [HML.out]; exact hjm)) := List.getElem?_eq_getElem _
                      have htj := take_at hmq
                      have hmw := HUS.out.2 _ (List.mem_of_getElem? hmq)
                      have hmb := HSM.out _ (List.mem_of_getElem? hmq)
                      generalize ms[j]'(by rw [HML.out]; exact hjm) = mv at m0 m1 m2 m3 hmq htj hmw hmb
                      obtain ⟨my, mn, mt, mz⟩ := mv
                      simp only at m0 m1 m2 m3 hmw hmb
                      obtain ⟨hy1, hy2, hy3, hy4⟩ := hmw
                      simp only at hy1 hy2 hy3 hy4
                      have hpl : 2 ^ k < 18446744073709551616 := Nat.lt_of_le_of_lt (Nat.pow_le_pow_right (by omega) (show k ≤ 60 by omega)) (by decide)
                      have hpow : (2 : Int) ^ k = ((2 ^ k : Nat) : Int) := by norm_cast
                      have hShl : IntKind.u64.wrap ((2 : Int) ^ k) = ((2 ^ k : Nat) : Int) := by rw [hpow, IntKind.wrap_u64]; omega
                      have hbit := u64_andNot_nat mz (2 ^ k) hy4 hpl
                      have hcl : clr k mz = mz &&& (18446744073709551615 - 2 ^ k) := rfl
                      rw [← hcl] at hbit
                      obtain ⟨P2, hP2⟩ : ∃ P2, 2 ^ k = P2 := ⟨_, rfl⟩
                      rw [hP2] at hShl hbit
                      obtain ⟨cz, hcz⟩ : ∃ cz, clr k mz = cz := ⟨_, rfl⟩
                      rw [hcz] at hbit
                      have HCZ := Lib.hid hcz
                      have HTJ := Lib.hid htj
                      have hal5 : Below W4.heap.size W4 (W4.alloc (.cells #[.int .u64 (my : Int), .int .u64 (mn : Int), .int .i64 mt, .int .u64 (mz : Int)] 53)) := (Below.refl _ _).alloc (Nat.le_refl _) _
                      have hQ5 := Holds.new W4 53 #[.int .u64 (my : Int), .int .u64 (mn : Int), .int .i64 mt, .int .u64 (mz : Int)]
                      have hR5 := (Fr.of_below hal5 (fun _ => False)).owns HR.out (fun _ _ h => h)
                      have hB5 := HBx.out.trans (hal5.mono HBx.out.size)
                      have hx0 := (hG4.belowAll hal5).cell 0
                      simp only [List.getElem?_cons_zero] at hx0
                      have HQ5 := Lib.hid hQ5
                      have HR5 := Lib.hid hR5
                      have HB5 := Lib.hid hB5
                      have hrlt : ∀ b, (Value.slice ar j cr).ownBlock = some b → b < W4.heap.size := fun b e => (HR.out.lt _ e).2
                      have HRL := Lib.hid hrlt
                      have hwj3 : IntKind.i64.wrap ((j : Int) + 1) = ((j + 1 : Nat) : Int) := by rw [wrap_small (by omega) (by omega)]; omega
                      clear hpl hpow hcl hP2 hcz htj hmq hal5 hQ5 hR5 hB5 hrlt hG4
                      go_wp2
                      generalize hW5 : W4.alloc (.cells #[.int .u64 (my : Int), .int .u64 (mn : Int), .int .i64 mt, .int .u64 (mz : Int)] 53) = W5 at *
                      obtain ⟨bq, hbq⟩ : ∃ bq, W4.heap.size = bq := ⟨_, rfl⟩
                      rw [hbq] at HQ5
                      simp only [hbq]
                      have HBQ := Lib.hid hbq
                      have y3 := HQ5.out.cell 3
                      have yf := HQ5.out.free 3
                      simp only [List.getElem?_cons_zero, List.getElem?_cons_succ] at y3
                      have hW5s : W3.heap.size ≤ W5.heap.size := HB5.out.size
                      have hQ6 := Holds.drew (HQ5.out.put 3 (.int .u64 (cz : Int)))
                      have z0 := hQ6.cell 0
                      have z1 := hQ6.cell 1
                      have z2 := hQ6.cell 2
                      have z3 := hQ6.cell 3
                      simp only [List.set_cons_zero, List.set_cons_succ, List.getElem?_cons_zero, List.getElem?_cons_succ] at z0 z1 z2 z3
                      have hR6 : ((W5.setCell ⟨bq, 3, none⟩ (.int .u64 (cz : Int))).drew).ownsRow W3.heap.size 53 4 (.slice ar j cr) j (mvs ((ms.take j).map (mapM (clr k)))) :=
                        (((Fr.refl (fun q => q = bq) W5).setCell (p := ⟨bq, 3, none⟩) (fun _ => rfl) (.int .u64 (cz : Int))).drew).owns (HR5.out) (fun q hq e => by
                          have := HRL.out q hq
                          have := HBQ.out
                          omega)
                      have hB6 : Below W3.heap.size W3 ((W5.setCell ⟨bq, 3, none⟩ (.int .u64 (cz : Int))).drew) := Below.drew (HB5.out.setCell (p := ⟨bq, 3, none⟩) (by rw [← HBQ.out]; exact HBx.out.size) (.int .u64 (cz : Int)))
                      have hR7 := hR6.alloc (.cells #[.int .u64 (my : Int), .int .u64 (mn : Int), .int .i64 mt, .int .u64 (cz : Int)] 53)
                      have hal7 : Below ((W5.setCell ⟨bq, 3, none⟩ (.int .u64 (cz : Int))).drew).heap.size ((W5.setCell ⟨bq, 3, none⟩ (.int .u64 (cz : Int))).drew) (((W5.setCell ⟨bq, 3, none⟩ (.int .u64 (cz : Int))).drew).alloc (.cells #[.int .u64 (my : Int), .int .u64 (mn : Int), .int .i64 mt, .int .u64 (cz : Int)] 53)) := (Below.refl _ _).alloc (Nat.le_refl _) _
                      have hB7 := hB6.trans (hal7.mono hB6.size)
                      have HB7 := Lib.hid hB7
                      obtain ⟨i0, hi0, hz0, hz1, hz2⟩ := info_parts Tryd.info53
                      clear hbq hW5 m0 m1 m2 m3 hQ6 hR6 hB6 hal7 hB7 x2 x3
                      go_region
                      go_wp2_with (at_builtin; refine wpList_append_own_at _ rfl (.tmp 118) (.tmp 120) _ rfl W3.heap.size 53 i0 _ 4 32 Tryd.underlying48 hi0 hz0 hz1 hz2 rfl (by omega) (.slice ar j cr) j _ rfl hR7 ⟨W5.heap.size, 0, none⟩ 1 1 [.int .u64 (my : Int), .int .u64 (mn : Int), .int .i64 mt, .int .u64 (cz : Int)] rfl rfl ?c1 ?c2 ?c3 ?c4 ?c5 ?_)
                      case c1 => exact cells_of_new _ _ (by simp) [.int .u64 (my : Int), .int .u64 (mn : Int), .int .i64 mt, .int .u64 (cz : Int)] 53
                      case c2 => simp [Value.oneCell']
                      case c3 => unfold maxLen; omega
                      case c4 => omega
                      case c5 => exact HB7.out.size
                      intro u9 w9 hS9 g9 _ _
                      obtain ⟨j1, hj1⟩ : ∃ j1, j + 1 = j1 := ⟨_, rfl⟩
                      rw [hj1] at hS9
                      obtain ⟨a9, c9, rfl, hc9, hm9⟩ := owns_form hS9
                      have HR9 : Hid (w9.ownsRow W3.heap.size 53 4 (.slice a9 j1 c9) j1 (mvs ((ms.take j1).map (mapM (clr k))))) := by
                        have e0 : (ms.take j1).map (mapM (clr k)) = (ms.take j).map (mapM (clr k)) ++ [mapM (clr k) ⟨my, mn, mt, mz⟩] := by
                          rw [← hj1, HTJ.out, List.map_append]; rfl
                        rw [e0, mvs_snoc]
                        have e : (mapM (clr k) ⟨my, mn, mt, mz⟩).cells = [.int .u64 (my : Int), .int .u64 (mn : Int), .int .i64 mt, .int .u64 (cz : Int)] := by
                          unfold mapM Mv.cells
                          simp only
                          rw [HCZ.out]
                        rw [e]
                        have h9 := hS9
                        rw [← List.map_take] at h9
                        exact h9
                      have HB9 : Hid (Below W3.heap.size W3 w9) := HB7.out.grown g9 HB7.out.size (fun q e => (hR7.lt q e).1)
                      rw [hj1] at hwj3
                      clear hS9 g9 hR7 z0 z1 z2 z3 y3 yf hx0
                      go_wp2
                      have hbq' := HBQ.out
                      subst hbq'
                      go_roundw
                      case rel => first | exact ⟨j1, rfl, by omega, HR9, HB9⟩ | ((repeat apply Exists.intro); exact ⟨⟨j1, rfl, by omega, HR9, HB9⟩, rfl⟩)
                      case measure => simp [intOf]; omega
                    · have hjm' : decide ((j : Int) < (ml : Int)) = false := decide_eq_false (by omega)
                      have hje : j = ml := by omega
                      subst hje
                      have hmt : ms.take j = ms := List.take_of_length_le (by rw [HML.out]; omega)
                      have hO4 := HO.out.below HBx.out
                      have hM4 := HM.out.belowAll HBx.out
                      have hr4 := own_mono HR.out HBr.out.size
                      rw [hmt] at hr4
                      have hal5 : Below W4.heap.size W4 (W4.alloc (.cells #[.slice ar j cr] 48)) := (Below.refl _ _).alloc (Nat.le_refl _) _
                      have hr5 := hr4.alloc (.cells #[.slice ar j cr] 48)
                      obtain ⟨usx, k1, k2⟩ := hO4.below hal5
                      have q2 := hM4.cell 2
                      simp only [List.getElem?_cons_zero, List.getElem?_cons_succ] at q2
                      have hM5 := hM4.alloc (.cells #[.slice ar j cr] 48)
                      have hB5 := (HBr.out.trans (HBx.out.mono HBr.out.size)).trans (hal5.mono (Nat.le_trans HBr.out.size HBx.out.size))
                      rw [htl] at k1
                      have HK2 := Lib.hid k2
                      have HM5 := Lib.hid hM5
                      have HB5 := Lib.hid hB5
                      have HR5 := Lib.hid hr5
                      obtain ⟨i0, hi0, hz0, hz1, hz2⟩ := info_parts Tryd.info48
                      clear hO4 hM4 hr4 hal5 hr5 k2 hM5 hB5 hG4 hmt
                      go_wp2_with (at_builtin; refine wpList_append_own_at _ rfl (.tmp 123) (.tmp 125) _ rfl W1.heap.size 48 i0 _ 1 24 Tryd.underlying23 hi0 hz0 hz1 hz2 rfl (by omega) (.slice asl i csl) i usx rfl k1 ⟨W4.heap.size, 0, none⟩ 1 1 [.slice ar j cr] rfl rfl ?c1 ?c2 ?c3 ?c4 ?c5 ?_)
                      case c1 => exact cells_of_new _ _ rfl [.slice ar j cr] 48
                      case c2 => simp [Value.oneCell']
                      case c3 => unfold maxLen; omega
                      case c4 => omega
                      case c5 => exact HB5.out.size
                      intro v' w9 hS9 g9 _ _
                      have hwf : ∀ m ∈ ms.map (mapM (clr k)), m.wf := fun m hm => by
                        obtain ⟨m0, hm0, rfl⟩ := List.mem_map.1 hm
                        obtain ⟨v1, v2, v3, v4⟩ := HUS.out.2 m0 hm0
                        refine ⟨v1, v2, v3, ?_⟩
                        show clr k m0.sets < 18446744073709551616
                        exact Nat.lt_of_le_of_lt (Nat.and_le_left) v4
                      have hlen : (ms.map (mapM (clr k))).length = j := by rw [List.length_map, HML.out]
                      have hO9 : OwnG W1.heap.size w9 v' (STS.take i ++ [ms.map (mapM (clr k))]) := OwnG.push (us := usx) (by rw [htl]; exact k1) HK2.out (by rw [hlen]; exact HR5.out) hwf g9 (by rw [htl]; exact hS9)
                      rw [← HTK.out] at hO9
                      have hM9 := own_kept k1 g9 HM5.out (by decide)
                      have hB9 := HB5.out.grown g9 HB5.out.size (fun q e => (k1.lt q e).1)
                      obtain ⟨i1, hi1⟩ : ∃ i1, i + 1 = i1 := ⟨_, rfl⟩
                      rw [hi1] at hS9 hO9 hwi3
                      obtain ⟨a9, c9, rfl, hc9, hm9⟩ := owns_form hS9
                      have t2 := hM9.cell 2
                      have t2f := hM9.free 2
                      simp only [List.getElem?_cons_zero, List.getElem?_cons_succ] at t2
                      have HM9 := Lib.hid (hM9.put 2 (.slice a9 i1 c9))
                      have HO9 := Lib.hid (hO9.put (i := 2) (u := .slice a9 i1 c9) hM9 (by decide) (by decide))
                      have HB9 := Lib.hid (hB9.setCell (p := ⟨W1.heap.size, 2, none⟩) (Nat.le_refl _) (.slice a9 i1 c9))
                      clear hS9 hO9 hM9 hB9 g9 k1 hwf hlen q2
                      go_wp2
                      go_roundw
                      case rel => first | exact ⟨i1, _, rfl, by omega, HM9, HO9, HB9⟩ | ((repeat apply Exists.intro); exact ⟨⟨i1, _, rfl, by omega, HM9, HO9, HB9⟩, rfl⟩)
                      case measure => simp [intOf]; omega
                · have hin2 : decide ((i : Int) < (n : Int)) = false := decide_eq_false (by omega)
                  have hte : STS.take i = STS := List.take_of_length_le (by rw [HSTL.out]; omega)
                  have hless : GenAt W3.heap.size W3 (.agg #[.int .i64 (k : Int), .slice a1 il cap1, .slice asl i csl]) (mapG (clr k) (k : Int) g) := by
                    refine ⟨.slice a1 il cap1, .slice asl i csl, rfl, ⟨by show -9223372036854775808 ≤ (k : Int); omega, by show (k : Int) ≤ 9223372036854775807; omega⟩, (HI.out.below HB3.out).mono HB3.out.size, ?_⟩
                    have := HO.out.read
                    rw [hte, ← HSTS.out] at this
                    exact this
                  have hgs : ((mapG (clr k) (k : Int) g).states.map List.length).sum ≤ 4000000 := by rw [sum_mapG]; exact hsum
                  have hacl : accCode (mapG (clr k) (k : Int) g) l = 0 := by unfold accCode; rw [if_pos (genOk_less HOK.out (by rw [HSE.out]; exact HK1.out))]; exact hlc
                  have HAL := Lib.hid (genAccepts (mapG (clr k) (k : Int) g) l _ _ W3 hless (HL.out.step HB3.out) hgs hb2)
                  rw [hacl] at HAL
                  have hm := HM.out
                  have q0 := hm.cell 0
                  have q1 := hm.cell 1
                  have q2 := hm.cell 2
                  simp only [List.getElem?_cons_zero, List.getElem?_cons_succ] at q0 q1 q2
                  have HIMP : Hid (accP g l → accP (mapG (clr k) (k : Int) g) l) := accP_less HOK.out (by rw [HSE.out]; exact HK1.out)
                  clear hte hless hgs hacl hm
                  cases b1 with
                  | true =>
                    go_wp2_with (first
                      | (go_at_call 14; refine (HAL.out).mono ?_; rintro e wc ⟨b9, rfl, hp9, hb'⟩; obtain rfl : b9 = true := hp9.2 ⟨rfl, HIMP.out (HIS.out.1 rfl)⟩; have HB9 := Lib.hid (HB3.out.trans (hb'.mono HB3.out.size)); clear hb')
                      | (go_at_call 12; refine (knownFn _).mono ?_; rintro e wc ⟨rfl, hb'⟩; have HBz := Lib.hid (HB9.out.trans (hb'.mono HB9.out.size)); clear hb'))
                    go_ret
                    exact ⟨rfl, HBz.out⟩
                  | false =>
                    go_wp2_with (first
                      | (go_at_call 14; refine (HAL.out).mono ?_; rintro e wc ⟨b9, rfl, hp9, hb'⟩; have HB9 := Lib.hid (HB3.out.trans (hb'.mono HB3.out.size)); clear hb')
                      | (go_at_call 12; refine (knownFn _).mono ?_; rintro e wc ⟨rfl, hb'⟩; have HBz := Lib.hid (HB9.out.trans (hb'.mono HB9.out.size)); clear hb'))
                    go_ret
                    exact ⟨rfl, HBz.out⟩
          · have hin' : (i : Int) < (il : Int) := by omega
            have hi5' : decide ((i : Int) < 50) = false := decide_eq_false (by omega)
            have hil' : decide ((il : Int) ≤ 50) = false := decide_eq_false (by omega)
            by_cases hbe : b = b1
            · have hbe' := hbe.symm
              subst hbe'
              have hwx : True := trivial
              by_cases hSz : S = 0
              · have hS1 : (S == 0) = true := by simp [hSz]
                subst hSz
                go_wp2_with (go_at_call 12; refine (knownFn _).mono ?_; rintro e wc ⟨rfl, hb'⟩; have HBz := Lib.hid (HB1.out.trans (hb'.mono HB1.out.size)))
                go_ret
                exact ⟨rfl, HBz.out⟩
              · have hS1 : (S == 0) = false := by simp; exact hSz
                obtain ⟨k, hk⟩ : ∃ k : Nat, S = (k : Int) + 1 := ⟨(S - 1).toNat, by omega⟩
                have hsub : IntKind.i64.wrap (S - 1) = (k : Int) := by rw [hk, show (k : Int) + 1 - 1 = (k : Int) by omega, wrap_small (by omega) (by omega)]
                have hk60 : k < 60 := by omega
                have HK1 := Lib.hid hk
                clear hk hSz
                obtain ⟨STS, hSTS⟩ : ∃ STS, g.states.map (List.map (mapM (clr k))) = STS := ⟨_, rfl⟩
                have hSTl : STS.length = n := by rw [← hSTS, List.length_map, HNE.out]
                have HSTS := Lib.hid hSTS
                have HSTL := Lib.hid hSTl
                have hal2 : Below W1.heap.size W1 (W1.alloc (.cells #[.int .i64 (k : Int), .slice a1 il cap1, .slice none 0 0] 25)) := (Below.refl _ _).alloc (Nat.le_refl _) _
                have HM2 := Lib.hid (Holds.new W1 25 #[.int .i64 (k : Int), .slice a1 il cap1, .slice none 0 0])
                have HB2 := Lib.hid hal2
                have HO2 : Hid (OwnG W1.heap.size (W1.alloc (.cells #[.int .i64 (k : Int), .slice a1 il cap1, .slice none 0 0] 25)) (.slice none 0 0) (STS.take 0)) := OwnG.nil _ _
                clear hSTS hSTl hal2
                go_wp2
                go_loopw [12] (fun y wr => ∃ (i : Nat) (vst : Value), y = .int .i64 (i : Int) ∧ i ≤ n ∧ Hid (Holds wr W1.heap.size 25 [.int .i64 (k : Int), .slice a1 il cap1, vst]) ∧ Hid (OwnG W1.heap.size wr vst (STS.take i)) ∧ Hid (Below W1.heap.size W1 wr)) (fun y _ => (n + 10 - intOf y).toNat)
                case atStart => exact ⟨0, _, rfl, Nat.zero_le _, HM2, HO2, HB2⟩
                case round =>
                  clear HM2 HO2 HB2
                  clear d0 d1 d2 d3 d4
                  obtain ⟨i, vst, rfl, hi, HM, HO, HBr⟩ := hrel
                  obtain ⟨W3, rfl⟩ : ∃ W, W = wr := ⟨wr, rfl⟩
                  have hG3 := HG1.out.belowAll HBr.out
                  have hL3 := HL1.out.belowAll HBr.out
                  have d0 := hG3.cell 0
                  have d2 := hG3.cell 2
                  have d3 := hL3.cell 0
                  have d4 := hL3.cell 1
                  simp only [List.getElem?_cons_zero, List.getElem?_cons_succ] at d0 d2 d3 d4
                  have HB3 : Hid (Below w.heap.size w W3) := HB1.out.trans (HBr.out.mono HB1.out.size)
                  have HG3 := Lib.hid hG3
                  have htl : (STS.take i).length = i := by rw [List.length_take, HSTL.out]; omega
                  obtain ⟨asl, csl, rfl, hcsl, hmsl⟩ := HO.out.form
                  rw [htl] at HO HM hcsl
                  clear hG3 hL3
                  by_cases hin : i < n
                  · have hin2 : (i : Int) < (n : Int) := by omega
                    obtain ⟨gs, os, us, rfl, hgs, e0, hus⟩ := (HS.out.below HB3.out).at (k := i) (by rw [HNE.out]; exact hin)
                    have hsq : g.states[i]? = some (g.states[i]'(by rw [HNE.out]; exact hin)) := List.getElem?_eq_getElem _
                    have hsm : ∀ m ∈ g.states[i]'(by rw [HNE.out]; exact hin), m.sets < 2 ^ (k + 1) := fun m hm => by
                      have := genOk_sets HOK.out _ (List.mem_of_getElem? hsq) m hm
                      rw [HSE.out, show S.toNat = k + 1 by have := HK1.out; omega] at this
                      exact this
                    have hml4 := (HPM.out _ (List.mem_of_getElem? hsq)).1
                    have htq : STS[i]? = some ((g.states[i]'(by rw [HNE.out]; exact hin)).map (mapM (clr k))) := by rw [← HSTS.out, List.getElem?_map, hsq]; rfl
                    have htk := take_at htq
                    generalize g.states[i]'(by rw [HNE.out]; exact hin) = ms at hus hsq hsm hml4 htq htk
                    obtain ⟨a6, cap6, rfl, hc6, hm6⟩ := hus.form
                    obtain ⟨ml, hmle⟩ : ∃ ml, ms.length = ml := ⟨_, rfl⟩
                    rw [hmle] at e0 hus hc6 hml4
                    have HML := Lib.hid hmle
                    have HUS := Lib.hid hus
                    have HSM := Lib.hid hsm
                    have HTK := Lib.hid htk
                    have hwi3 : IntKind.i64.wrap ((i : Int) + 1) = ((i + 1 : Nat) : Int) := by rw [wrap_small (by omega) (by omega)]; omega
                    have HR0 : Hid (W3.ownsRow W3.heap.size 53 4 (.slice none 0 0) 0 (mvs ((ms.take 0).map (mapM (clr k))))) := World.ownsRow_nil _ _ _ _
                    clear hmle hus hsq hsm htq htk
                    go_wp2
                    go_loopw [13, 14] (fun u y wr => ∃ j : Nat, y = .int .i64 (j : Int) ∧ j ≤ ml ∧ Hid (wr.ownsRow W3.heap.size 53 4 u j (mvs ((ms.take j).map (mapM (clr k))))) ∧ Hid (Below W3.heap.size W3 wr)) (fun _ y _ => (ml + 10 - intOf y).toNat)
                    case atStart => exact ⟨0, rfl, Nat.zero_le _, HR0, Below.refl _ _⟩
                    case round =>
                      clear HR0
                      obtain ⟨j, rfl, hj, HR, HBx⟩ := hrel
                      obtain ⟨W4, rfl⟩ : ∃ W, W = wr := ⟨wr, rfl⟩
                      obtain ⟨ar, cr, rfl, hcr, hmr⟩ := owns_form HR.out
                      have HBw4 : Hid (Below w.heap.size W3 W4) := HBx.out.mono HB3.out.size
                      have hG4 := HG3.out.belowAll HBx.out
                      have x0 := hG4.cell 0
                      have x2 := hG4.cell 2
                      have x3 : W4.cell? ⟨gs, os + i, none⟩ = some (.slice a6 ml cap6) := (cell_below HBw4.out hgs _).trans e0
                      simp only [List.getElem?_cons_zero, List.getElem?_cons_succ] at x0 x2
                      by_cases hjm : j < ml
                      · have hjm' : (j : Int) < (ml : Int) := by omega
                        obtain ⟨g6, o6, rfl, hg6, m0, m1, m2, m3⟩ := (HUS.out.below HBw4.out).at (k := j) (by rw [HML.out]; exact hjm)
                        have hmq : ms[j]? = some (ms[j]'(by rw [HML.out]; exact hjm)) := List.getElem?_eq_getElem _
                        have htj := take_at hmq
                        have hmw := HUS.out.2 _ (List.mem_of_getElem? hmq)
                        have hmb := HSM.out _ (List.mem_of_getElem? hmq)
                        generalize ms[j]'(by rw [HML.out]; exact hjm) = mv at m0 m1 m2 m3 hmq htj hmw hmb
                        obtain ⟨my, mn, mt, mz⟩ := mv
                        simp only at m0 m1 m2 m3 hmw hmb
                        obtain ⟨hy1, hy2, hy3, hy4⟩ := hmw
                        simp only at hy1 hy2 hy3 hy4
                        have hpl : 2 ^ k < 18446744073709551616 := Nat.lt_of_le_of_lt (Nat.pow_le_pow_right (by omega) (show k ≤ 60 by omega)) (by decide)
                        have hpow : (2 : Int) ^ k = ((2 ^ k : Nat) : Int) := by norm_cast
                        have hShl : IntKind.u64.wrap ((2 : Int) ^ k) = ((2 ^ k : Nat) : Int) := by rw [hpow, IntKind.wrap_u64]; omega
                        have hbit := u64_andNot_nat mz (2 ^ k) hy4 hpl
                        have hcl : clr k mz = mz &&& (18446744073709551615 - 2 ^ k) := rfl
                        rw [← hcl] at hbit
                        obtain ⟨P2, hP2⟩ : ∃ P2, 2 ^ k = P2 := ⟨_, rfl⟩
                        rw [hP2] at hShl hbit
                        obtain ⟨cz, hcz⟩ : ∃ cz, clr k mz = cz := ⟨_, rfl⟩
                        rw [hcz] at hbit
                        have HCZ := Lib.hid hcz
                        have HTJ := Lib.hid htj
                        have hal5 : Below W4.heap.size W4 (W4.alloc (.cells #[.int .u64 (my : Int), .int .u64 (mn : Int), .int .i64 mt, .int .u64 (mz : Int)] 53)) := (Below.refl _ _).alloc (Nat.le_refl _) _
                        have hQ5 := Holds.new W4 53 #[.int .u64 (my : Int), .int .u64 (mn : Int), .int .i64 mt, .int .u64 (mz : Int)]
                        have hR5 := (Fr.of_below hal5 (fun _ => False)).owns HR.out (fun _ _ h => h)
                        have hB5 := HBx.out.trans (hal5.mono HBx.out.size)
                        have hx0 := (hG4.belowAll hal5).cell 0
                        simp only [List.getElem?_cons_zero] at hx0
                        have HQ5 := Lib.hid hQ5
                        have HR5 := Lib.hid hR5
                        have HB5 := Lib.hid hB5
                        have hrlt : ∀ b, (Value.slice ar j cr).ownBlock = some b → b < W4.heap.size := fun b e => (HR.out.lt _ e).2
                        have HRL := Lib.hid hrlt
                        have hwj3 : IntKind.i64.wrap ((j : Int) + 1) = ((j + 1 : Nat) : Int) := by rw [wrap_small (by omega) (by omega)]; omega
                        clear hpl hpow hcl hP2 hcz htj hmq hal5 hQ5 hR5 hB5 hrlt hG4
                        go_wp2
                        generalize hW5 : W4.alloc (.cells #[.int .u64 (my : Int), .int .u64 (mn : Int), .int .i64 mt, .int .u64 (mz : Int)] 53) = W5 at *
                        obtain ⟨bq, hbq⟩ : ∃ bq, W4.heap.size = bq := ⟨_, rfl⟩
                        rw [hbq] at HQ5
                        simp only [hbq]
                        have HBQ := Lib.hid hbq
                        have y3 := HQ5.out.cell 3
                        have yf := HQ5.out.free 3
                        simp only [List.getElem?_cons_zero, List.getElem?_cons_succ] at y3
                        have hW5s : W3.heap.size ≤ W5.heap.size := HB5.out.size
                        have hQ6 := Holds.drew (HQ5.out.put 3 (.int .u64 (cz : Int)))
                        have z0 := hQ6.cell 0
                        have z1 := hQ6.cell 1
                        have z2 := hQ6.cell 2
                        have z3 := hQ6.cell 3
                        simp only [List.set_cons_zero, List.set_cons_succ, List.getElem?_cons_zero, List.getElem?_cons_succ] at z0 z1 z2 z3
                        have hR6 : ((W5.setCell ⟨bq, 3, none⟩ (.int .u64 (cz : Int))).drew).ownsRow W3.heap.size 53 4 (.slice ar j cr) j (mvs ((ms.take j).map (mapM (clr k)))) :=
                          (((Fr.refl (fun q => q = bq) W5).setCell (p := ⟨bq, 3, none⟩) (fun _ => rfl) (.int .u64 (cz : Int))).drew).owns (HR5.out) (fun q hq e => by
                            have := HRL.out q hq
                            have := HBQ.out
                            omega)
                        have hB6 : Below W3.heap.size W3 ((W5.setCell ⟨bq, 3, none⟩ (.int .u64 (cz : Int))).drew) := Below.drew (HB5.out.setCell (p := ⟨bq, 3, none⟩) (by rw [← HBQ.out]; exact HBx.out.size) (.int .u64 (cz : Int)))
                        have hR7 := hR6.alloc (.cells #[.int .u64 (my : Int), .int .u64 (mn : Int), .int .i64 mt, .int .u64 (cz : Int)] 53)
                        have hal7 : Below ((W5.setCell ⟨bq, 3, none⟩ (.int .u64 (cz : Int))).drew).heap.size ((W5.setCell ⟨bq, 3, none⟩ (.int .u64 (cz : Int))).drew) (((W5.setCell ⟨bq, 3, none⟩ (.int .u64 (cz : Int))).drew).alloc (.cells #[.int .u64 (my : Int), .int .u64 (mn : Int), .int .i64 mt, .int .u64 (cz : Int)] 53)) := (Below.refl _ _).alloc (Nat.le_refl _) _
                        have hB7 := hB6.trans (hal7.mono hB6.size)
                        have HB7 := Lib.hid hB7
                        obtain ⟨i0, hi0, hz0, hz1, hz2⟩ := info_parts Tryd.info53
                        clear hbq hW5 m0 m1 m2 m3 hQ6 hR6 hB6 hal7 hB7 x2 x3
                        go_region
                        go_wp2_with (at_builtin; refine wpList_append_own_at _ rfl (.tmp 118) (.tmp 120) _ rfl W3.heap.size 53 i0 _ 4 32 Tryd.underlying48 hi0 hz0 hz1 hz2 rfl (by omega) (.slice ar j cr) j _ rfl hR7 ⟨W5.heap.size, 0, none⟩ 1 1 [.int .u64 (my : Int), .int .u64 (mn : Int), .int .i64 mt, .int .u64 (cz : Int)] rfl rfl ?c1 ?c2 ?c3 ?c4 ?c5 ?_)
                        case c1 => exact cells_of_new _ _ (by simp) [.int .u64 (my : Int), .int .u64 (mn : Int), .int .i64 mt, .int .u64 (cz : Int)] 53
                        case c2 => simp [Value.oneCell']
                        case c3 => unfold maxLen; omega
                        case c4 => omega
                        case c5 => exact HB7.out.size
                        intro u9 w9 hS9 g9 _ _
                        obtain ⟨j1, hj1⟩ : ∃ j1, j + 1 = j1 := ⟨_, rfl⟩
                        rw [hj1] at hS9
                        obtain ⟨a9, c9, rfl, hc9, hm9⟩ := owns_form hS9
                        have HR9 : Hid (w9.ownsRow W3.heap.size 53 4 (.slice a9 j1 c9) j1 (mvs ((ms.take j1).map (mapM (clr k))))) := by
                          have e0 : (ms.take j1).map (mapM (clr k)) = (ms.take j).map (mapM (clr k)) ++ [mapM (clr k) ⟨my, mn, mt, mz⟩] := by
                            rw [← hj1, HTJ.out, List.map_append]; rfl
                          rw [e0, mvs_snoc]
                          have e : (mapM (clr k) ⟨my, mn, mt, mz⟩).cells = [.int .u64 (my : Int), .int .u64 (mn : Int), .int .i64 mt, .int .u64 (cz : Int)] := by
                            unfold mapM Mv.cells
                            simp only
                            rw [HCZ.out]
                          rw [e]
                          have h9 := hS9
                          rw [← List.map_take] at h9
                          exact h9
                        have HB9 : Hid (Below W3.heap.size W3 w9) := HB7.out.grown g9 HB7.out.size (fun q e => (hR7.lt q e).1)
                        rw [hj1] at hwj3
                        clear hS9 g9 hR7 z0 z1 z2 z3 y3 yf hx0
                        go_wp2
                        have hbq' := HBQ.out
                        subst hbq'
                        go_roundw
                        case rel => first | exact ⟨j1, rfl, by omega, HR9, HB9⟩ | ((repeat apply Exists.intro); exact ⟨⟨j1, rfl, by omega, HR9, HB9⟩, rfl⟩)
                        case measure => simp [intOf]; omega
                      · have hjm' : decide ((j : Int) < (ml : Int)) = false := decide_eq_false (by omega)
                        have hje : j = ml := by omega
                        subst hje
                        have hmt : ms.take j = ms := List.take_of_length_le (by rw [HML.out]; omega)
                        have hO4 := HO.out.below HBx.out
                        have hM4 := HM.out.belowAll HBx.out
                        have hr4 := own_mono HR.out HBr.out.size
                        rw [hmt] at hr4
                        have hal5 : Below W4.heap.size W4 (W4.alloc (.cells #[.slice ar j cr] 48)) := (Below.refl _ _).alloc (Nat.le_refl _) _
                        have hr5 := hr4.alloc (.cells #[.slice ar j cr] 48)
                        obtain ⟨usx, k1, k2⟩ := hO4.below hal5
                        have q2 := hM4.cell 2
                        simp only [List.getElem?_cons_zero, List.getElem?_cons_succ] at q2
                        have hM5 := hM4.alloc (.cells #[.slice ar j cr] 48)
                        have hB5 := (HBr.out.trans (HBx.out.mono HBr.out.size)).trans (hal5.mono (Nat.le_trans HBr.out.size HBx.out.size))
                        rw [htl] at k1
                        have HK2 := Lib.hid k2
                        have HM5 := Lib.hid hM5
                        have HB5 := Lib.hid hB5
                        have HR5 := Lib.hid hr5
                        obtain ⟨i0, hi0, hz0, hz1, hz2⟩ := info_parts Tryd.info48
                        clear hO4 hM4 hr4 hal5 hr5 k2 hM5 hB5 hG4 hmt
                        go_wp2_with (at_builtin; refine wpList_append_own_at _ rfl (.tmp 123) (.tmp 125) _ rfl W1.heap.size 48 i0 _ 1 24 Tryd.underlying23 hi0 hz0 hz1 hz2 rfl (by omega) (.slice asl i csl) i usx rfl k1 ⟨W4.heap.size, 0, none⟩ 1 1 [.slice ar j cr] rfl rfl ?c1 ?c2 ?c3 ?c4 ?c5 ?_)
                        case c1 => exact cells_of_new _ _ rfl [.slice ar j cr] 48
                        case c2 => simp [Value.oneCell']
                        case c3 => unfold maxLen; omega
                        case c4 => omega
                        case c5 => exact HB5.out.size
                        intro v' w9 hS9 g9 _ _
                        have hwf : ∀ m ∈ ms.map (mapM (clr k)), m.wf := fun m hm => by
                          obtain ⟨m0, hm0, rfl⟩ := List.mem_map.1 hm
                          obtain ⟨v1, v2, v3, v4⟩ := HUS.out.2 m0 hm0
                          refine ⟨v1, v2, v3, ?_⟩
                          show clr k m0.sets < 18446744073709551616
                          exact Nat.lt_of_le_of_lt (Nat.and_le_left) v4
                        have hlen : (ms.map (mapM (clr k))).length = j := by rw [List.length_map, HML.out]
                        have hO9 : OwnG W1.heap.size w9 v' (STS.take i ++ [ms.map (mapM (clr k))]) := OwnG.push (us := usx) (by rw [htl]; exact k1) HK2.out (by rw [hlen]; exact HR5.out) hwf g9 (by rw [htl]; exact hS9)
                        rw [← HTK.out] at hO9
                        have hM9 := own_kept k1 g9 HM5.out (by decide)
                        have hB9 := HB5.out.grown g9 HB5.out.size (fun q e => (k1.lt q e).1)
                        obtain ⟨i1, hi1⟩ : ∃ i1, i + 1 = i1 := ⟨_, rfl⟩
                        rw [hi1] at hS9 hO9 hwi3
                        obtain ⟨a9, c9, rfl, hc9, hm9⟩ := owns_form hS9
                        have t2 := hM9.cell 2
                        have t2f := hM9.free 2
                        simp only [List.getElem?_cons_zero, List.getElem?_cons_succ] at t2
                        have HM9 := Lib.hid (hM9.put 2 (.slice a9 i1 c9))
                        have HO9 := Lib.hid (hO9.put (i := 2) (u := .slice a9 i1 c9) hM9 (by decide) (by decide))
                        have HB9 := Lib.hid (hB9.setCell (p := ⟨W1.heap.size, 2, none⟩) (Nat.le_refl _) (.slice a9 i1 c9))
                        clear hS9 hO9 hM9 hB9 g9 k1 hwf hlen q2
                        go_wp2
                        go_roundw
                        case rel => first | exact ⟨i1, _, rfl, by omega, HM9, HO9, HB9⟩ | ((repeat apply Exists.intro); exact ⟨⟨i1, _, rfl, by omega, HM9, HO9, HB9⟩, rfl⟩)
                        case measure => simp [intOf]; omega
                  · have hin2 : decide ((i : Int) < (n : Int)) = false := decide_eq_false (by omega)
                    have hte : STS.take i = STS := List.take_of_length_le (by rw [HSTL.out]; omega)
                    have hless : GenAt W3.heap.size W3 (.agg #[.int .i64 (k : Int), .slice a1 il cap1, .slice asl i csl]) (mapG (clr k) (k : Int) g) := by
                      refine ⟨.slice a1 il cap1, .slice asl i csl, rfl, ⟨by show -9223372036854775808 ≤ (k : Int); omega, by show (k : Int) ≤ 9223372036854775807; omega⟩, (HI.out.below HB3.out).mono HB3.out.size, ?_⟩
                      have := HO.out.read
                      rw [hte, ← HSTS.out] at this
                      exact this
                    have hgs : ((mapG (clr k) (k : Int) g).states.map List.length).sum ≤ 4000000 := by rw [sum_mapG]; exact hsum
                    have hacl : accCode (mapG (clr k) (k : Int) g) l = 0 := by unfold accCode; rw [if_pos (genOk_less HOK.out (by rw [HSE.out]; exact HK1.out))]; exact hlc
                    have HAL := Lib.hid (genAccepts (mapG (clr k) (k : Int) g) l _ _ W3 hless (HL.out.step HB3.out) hgs hb2)
                    rw [hacl] at HAL
                    have hm := HM.out
                    have q0 := hm.cell 0
                    have q1 := hm.cell 1
                    have q2 := hm.cell 2
                    simp only [List.getElem?_cons_zero, List.getElem?_cons_succ] at q0 q1 q2
                    have HIMP : Hid (accP g l → accP (mapG (clr k) (k : Int) g) l) := accP_less HOK.out (by rw [HSE.out]; exact HK1.out)
                    clear hte hless hgs hacl hm
                    cases b1 with
                    | true =>
                      go_wp2_with (first
                        | (go_at_call 14; refine (HAL.out).mono ?_; rintro e wc ⟨b9, rfl, hp9, hb'⟩; obtain rfl : b9 = true := hp9.2 ⟨rfl, HIMP.out (HIS.out.1 rfl)⟩; have HB9 := Lib.hid (HB3.out.trans (hb'.mono HB3.out.size)); clear hb')
                        | (go_at_call 12; refine (knownFn _).mono ?_; rintro e wc ⟨rfl, hb'⟩; have HBz := Lib.hid (HB9.out.trans (hb'.mono HB9.out.size)); clear hb'))
                      go_ret
                      exact ⟨rfl, HBz.out⟩
                    | false =>
                      go_wp2_with (first
                        | (go_at_call 14; refine (HAL.out).mono ?_; rintro e wc ⟨b9, rfl, hp9, hb'⟩; have HB9 := Lib.hid (HB3.out.trans (hb'.mono HB3.out.size)); clear hb')
                        | (go_at_call 12; refine (knownFn _).mono ?_; rintro e wc ⟨rfl, hb'⟩; have HBz := Lib.hid (HB9.out.trans (hb'.mono HB9.out.size)); clear hb'))
                      go_ret
                      exact ⟨rfl, HBz.out⟩
            · -- hbe: they differ
              have hwx : True := trivial
              by_cases hSz : S = 0
              · have hS1 : (S == 0) = true := by simp [hSz]
                subst hSz
                go_wp2_with (go_at_call 12; refine (knownFn _).mono ?_; rintro e wc ⟨rfl, hb'⟩; have HBz := Lib.hid (HB1.out.trans (hb'.mono HB1.out.size)))
                go_ret
                exact ⟨rfl, HBz.out⟩
              · have hS1 : (S == 0) = false := by simp; exact hSz
                obtain ⟨k, hk⟩ : ∃ k : Nat, S = (k : Int) + 1 := ⟨(S - 1).toNat, by omega⟩
                have hsub : IntKind.i64.wrap (S - 1) = (k : Int) := by rw [hk, show (k : Int) + 1 - 1 = (k : Int) by omega, wrap_small (by omega) (by omega)]
                have hk60 : k < 60 := by omega
                have HK1 := Lib.hid hk
                clear hk hSz
                obtain ⟨STS, hSTS⟩ : ∃ STS, g.states.map (List.map (mapM (clr k))) = STS := ⟨_, rfl⟩
                have hSTl : STS.length = n := by rw [← hSTS, List.length_map, HNE.out]
                have HSTS := Lib.hid hSTS
                have HSTL := Lib.hid hSTl
                have hal2 : Below W1.heap.size W1 (W1.alloc (.cells #[.int .i64 (k : Int), .slice a1 il cap1, .slice none 0 0] 25)) := (Below.refl _ _).alloc (Nat.le_refl _) _
                have HM2 := Lib.hid (Holds.new W1 25 #[.int .i64 (k : Int), .slice a1 il cap1, .slice none 0 0])
                have HB2 := Lib.hid hal2
                have HO2 : Hid (OwnG W1.heap.size (W1.alloc (.cells #[.int .i64 (k : Int), .slice a1 il cap1, .slice none 0 0] 25)) (.slice none 0 0) (STS.take 0)) := OwnG.nil _ _
                clear hSTS hSTl hal2
                go_wp2
                go_loopw [12] (fun y wr => ∃ (i : Nat) (vst : Value), y = .int .i64 (i : Int) ∧ i ≤ n ∧ Hid (Holds wr W1.heap.size 25 [.int .i64 (k : Int), .slice a1 il cap1, vst]) ∧ Hid (OwnG W1.heap.size wr vst (STS.take i)) ∧ Hid (Below W1.heap.size W1 wr)) (fun y _ => (n + 10 - intOf y).toNat)
                case atStart => exact ⟨0, _, rfl, Nat.zero_le _, HM2, HO2, HB2⟩
                case round =>
                  clear HM2 HO2 HB2
                  clear d0 d1 d2 d3 d4
                  obtain ⟨i, vst, rfl, hi, HM, HO, HBr⟩ := hrel
                  obtain ⟨W3, rfl⟩ : ∃ W, W = wr := ⟨wr, rfl⟩
                  have hG3 := HG1.out.belowAll HBr.out
                  have hL3 := HL1.out.belowAll HBr.out
                  have d0 := hG3.cell 0
                  have d2 := hG3.cell 2
                  have d3 := hL3.cell 0
                  have d4 := hL3.cell 1
                  simp only [List.getElem?_cons_zero, List.getElem?_cons_succ] at d0 d2 d3 d4
                  have HB3 : Hid (Below w.heap.size w W3) := HB1.out.trans (HBr.out.mono HB1.out.size)
                  have HG3 := Lib.hid hG3
                  have htl : (STS.take i).length = i := by rw [List.length_take, HSTL.out]; omega
                  obtain ⟨asl, csl, rfl, hcsl, hmsl⟩ := HO.out.form
                  rw [htl] at HO HM hcsl
                  clear hG3 hL3
                  by_cases hin : i < n
                  · have hin2 : (i : Int) < (n : Int) := by omega
                    obtain ⟨gs, os, us, rfl, hgs, e0, hus⟩ := (HS.out.below HB3.out).at (k := i) (by rw [HNE.out]; exact hin)
                    have hsq : g.states[i]? = some (g.states[i]'(by rw [HNE.out]; exact hin)) := List.getElem?_eq_getElem _
                    have hsm : ∀ m ∈ g.states[i]'(by rw [HNE.out]; exact hin), m.sets < 2 ^ (k + 1) := fun m hm => by
                      have := genOk_sets HOK.out _ (List.mem_of_getElem? hsq) m hm
                      rw [HSE.out, show S.toNat = k + 1 by have := HK1.out; omega] at this
                      exact this
                    have hml4 := (HPM.out _ (List.mem_of_getElem? hsq)).1
                    have htq : STS[i]? = some ((g.states[i]'(by rw [HNE.out]; exact hin)).map (mapM (clr k))) := by rw [← HSTS.out, List.getElem?_map, hsq]; rfl
                    have htk := take_at htq
                    generalize g.states[i]'(by rw [HNE.out]; exact hin) = ms at hus hsq hsm hml4 htq htk
                    obtain ⟨a6, cap6, rfl, hc6, hm6⟩ := hus.form
                    obtain ⟨ml, hmle⟩ : ∃ ml, ms.length = ml := ⟨_, rfl⟩
                    rw [hmle] at e0 hus hc6 hml4
                    have HML := Lib.hid hmle
                    have HUS := Lib.hid hus
                    have HSM := Lib.hid hsm
                    have HTK := Lib.hid htk
                    have hwi3 : IntKind.i64.wrap ((i : Int) + 1) = ((i + 1 : Nat) : Int) := by rw [wrap_small (by omega) (by omega)]; omega
                    have HR0 : Hid (W3.ownsRow W3.heap.size 53 4 (.slice none 0 0) 0 (mvs ((ms.take 0).map (mapM (clr k))))) := World.ownsRow_nil _ _ _ _
                    clear hmle hus hsq hsm htq htk
                    go_wp2
                    go_loopw [13, 14] (fun u y wr => ∃ j : Nat, y = .int .i64 (j : Int) ∧ j ≤ ml ∧ Hid (wr.ownsRow W3.heap.size 53 4 u j (mvs ((ms.take j).map (mapM (clr k))))) ∧ Hid (Below W3.heap.size W3 wr)) (fun _ y _ => (ml + 10 - intOf y).toNat)
                    case atStart => exact ⟨0, rfl, Nat.zero_le _, HR0, Below.refl _ _⟩
                    case round =>
                      clear HR0
                      obtain ⟨j, rfl, hj, HR, HBx⟩ := hrel
                      obtain ⟨W4, rfl⟩ : ∃ W, W = wr := ⟨wr, rfl⟩
                      obtain ⟨ar, cr, rfl, hcr, hmr⟩ := owns_form HR.out
                      have HBw4 : Hid (Below w.heap.size W3 W4) := HBx.out.mono HB3.out.size
                      have hG4 := HG3.out.belowAll HBx.out
                      have x0 := hG4.cell 0
                      have x2 := hG4.cell 2
                      have x3 : W4.cell? ⟨gs, os + i, none⟩ = some (.slice a6 ml cap6) := (cell_below HBw4.out hgs _).trans e0
                      simp only [List.getElem?_cons_zero, List.getElem?_cons_succ] at x0 x2
                      by_cases hjm : j < ml
                      · have hjm' : (j : Int) < (ml : Int) := by omega
                        obtain ⟨g6, o6, rfl, hg6, m0, m1, m2, m3⟩ := (HUS.out.below HBw4.out).at (k := j) (by rw [HML.out]; exact hjm)
                        have hmq : ms[j]? = some (ms[j]'(by rw [HML.out]; exact hjm)) := List.getElem?_eq_getElem _
                        have htj := take_at hmq
                        have hmw := HUS.out.2 _ (List.mem_of_getElem? hmq)
                        have hmb := HSM.out _ (List.mem_of_getElem? hmq)
                        generalize ms[j]'(by rw [HML.out]; exact hjm) = mv at m0 m1 m2 m3 hmq htj hmw hmb
                        obtain ⟨my, mn, mt, mz⟩ := mv
                        simp only at m0 m1 m2 m3 hmw hmb
                        obtain ⟨hy1, hy2, hy3, hy4⟩ := hmw
                        simp only at hy1 hy2 hy3 hy4
                        have hpl : 2 ^ k < 18446744073709551616 := Nat.lt_of_le_of_lt (Nat.pow_le_pow_right (by omega) (show k ≤ 60 by omega)) (by decide)
                        have hpow : (2 : Int) ^ k = ((2 ^ k : Nat) : Int) := by norm_cast
                        have hShl : IntKind.u64.wrap ((2 : Int) ^ k) = ((2 ^ k : Nat) : Int) := by rw [hpow, IntKind.wrap_u64]; omega
                        have hbit := u64_andNot_nat mz (2 ^ k) hy4 hpl
                        have hcl : clr k mz = mz &&& (18446744073709551615 - 2 ^ k) := rfl
                        rw [← hcl] at hbit
                        obtain ⟨P2, hP2⟩ : ∃ P2, 2 ^ k = P2 := ⟨_, rfl⟩
                        rw [hP2] at hShl hbit
                        obtain ⟨cz, hcz⟩ : ∃ cz, clr k mz = cz := ⟨_, rfl⟩
                        rw [hcz] at hbit
                        have HCZ := Lib.hid hcz
                        have HTJ := Lib.hid htj
                        have hal5 : Below W4.heap.size W4 (W4.alloc (.cells #[.int .u64 (my : Int), .int .u64 (mn : Int), .int .i64 mt, .int .u64 (mz : Int)] 53)) := (Below.refl _ _).alloc (Nat.le_refl _) _
                        have hQ5 := Holds.new W4 53 #[.int .u64 (my : Int), .int .u64 (mn : Int), .int .i64 mt, .int .u64 (mz : Int)]
                        have hR5 := (Fr.of_below hal5 (fun _ => False)).owns HR.out (fun _ _ h => h)
                        have hB5 := HBx.out.trans (hal5.mono HBx.out.size)
                        have hx0 := (hG4.belowAll hal5).cell 0
                        simp only [List.getElem?_cons_zero] at hx0
                        have HQ5 := Lib.hid hQ5
                        have HR5 := Lib.hid hR5
                        have HB5 := Lib.hid hB5
                        have hrlt : ∀ b, (Value.slice ar j cr).ownBlock = some b → b < W4.heap.size := fun b e => (HR.out.lt _ e).2
                        have HRL := Lib.hid hrlt
                        have hwj3 : IntKind.i64.wrap ((j : Int) + 1) = ((j + 1 : Nat) : Int) := by rw [wrap_small (by omega) (by omega)]; omega
                        clear hpl hpow hcl hP2 hcz htj hmq hal5 hQ5 hR5 hB5 hrlt hG4
                        go_wp2
                        generalize hW5 : W4.alloc (.cells #[.int .u64 (my : Int), .int .u64 (mn : Int), .int .i64 mt, .int .u64 (mz : Int)] 53) = W5 at *
                        obtain ⟨bq, hbq⟩ : ∃ bq, W4.heap.size = bq := ⟨_, rfl⟩
                        rw [hbq] at HQ5
                        simp only [hbq]
                        have HBQ := Lib.hid hbq
                        have y3 := HQ5.out.cell 3
                        have yf := HQ5.out.free 3
                        simp only [List.getElem?_cons_zero, List.getElem?_cons_succ] at y3
                        have hW5s : W3.heap.size ≤ W5.heap.size := HB5.out.size
                        have hQ6 := Holds.drew (HQ5.out.put 3 (.int .u64 (cz : Int)))
                        have z0 := hQ6.cell 0
                        have z1 := hQ6.cell 1
                        have z2 := hQ6.cell 2
                        have z3 := hQ6.cell 3
                        simp only [List.set_cons_zero, List.set_cons_succ, List.getElem?_cons_zero, List.getElem?_cons_succ] at z0 z1 z2 z3
                        have hR6 : ((W5.setCell ⟨bq, 3, none⟩ (.int .u64 (cz : Int))).drew).ownsRow W3.heap.size 53 4 (.slice ar j cr) j (mvs ((ms.take j).map (mapM (clr k)))) :=
                          (((Fr.refl (fun q => q = bq) W5).setCell (p := ⟨bq, 3, none⟩) (fun _ => rfl) (.int .u64 (cz : Int))).drew).owns (HR5.out) (fun q hq e => by
                            have := HRL.out q hq
                            have := HBQ.out
                            omega)
                        have hB6 : Below W3.heap.size W3 ((W5.setCell ⟨bq, 3, none⟩ (.int .u64 (cz : Int))).drew) := Below.drew (HB5.out.setCell (p := ⟨bq, 3, none⟩) (by rw [← HBQ.out]; exact HBx.out.size) (.int .u64 (cz : Int)))
                        have hR7 := hR6.alloc (.cells #[.int .u64 (my : Int), .int .u64 (mn : Int), .int .i64 mt, .int .u64 (cz : Int)] 53)
                        have hal7 : Below ((W5.setCell ⟨bq, 3, none⟩ (.int .u64 (cz : Int))).drew).heap.size ((W5.setCell ⟨bq, 3, none⟩ (.int .u64 (cz : Int))).drew) (((W5.setCell ⟨bq, 3, none⟩ (.int .u64 (cz : Int))).drew).alloc (.cells #[.int .u64 (my : Int), .int .u64 (mn : Int), .int .i64 mt, .int .u64 (cz : Int)] 53)) := (Below.refl _ _).alloc (Nat.le_refl _) _
                        have hB7 := hB6.trans (hal7.mono hB6.size)
                        have HB7 := Lib.hid hB7
                        obtain ⟨i0, hi0, hz0, hz1, hz2⟩ := info_parts Tryd.info53
                        clear hbq hW5 m0 m1 m2 m3 hQ6 hR6 hB6 hal7 hB7 x2 x3
                        go_region
                        go_wp2_with (at_builtin; refine wpList_append_own_at _ rfl (.tmp 118) (.tmp 120) _ rfl W3.heap.size 53 i0 _ 4 32 Tryd.underlying48 hi0 hz0 hz1 hz2 rfl (by omega) (.slice ar j cr) j _ rfl hR7 ⟨W5.heap.size, 0, none⟩ 1 1 [.int .u64 (my : Int), .int .u64 (mn : Int), .int .i64 mt, .int .u64 (cz : Int)] rfl rfl ?c1 ?c2 ?c3 ?c4 ?c5 ?_)
                        case c1 => exact cells_of_new _ _ (by simp) [.int .u64 (my : Int), .int .u64 (mn : Int), .int .i64 mt, .int .u64 (cz : Int)] 53
                        case c2 => simp [Value.oneCell']
                        case c3 => unfold maxLen; omega
                        case c4 => omega
                        case c5 => exact HB7.out.size
                        intro u9 w9 hS9 g9 _ _
                        obtain ⟨j1, hj1⟩ : ∃ j1, j + 1 = j1 := ⟨_, rfl⟩
                        rw [hj1] at hS9
                        obtain ⟨a9, c9, rfl, hc9, hm9⟩ := owns_form hS9
                        have HR9 : Hid (w9.ownsRow W3.heap.size 53 4 (.slice a9 j1 c9) j1 (mvs ((ms.take j1).map (mapM (clr k))))) := by
                          have e0 : (ms.take j1).map (mapM (clr k)) = (ms.take j).map (mapM (clr k)) ++ [mapM (clr k) ⟨my, mn, mt, mz⟩] := by
                            rw [← hj1, HTJ.out, List.map_append]; rfl
                          rw [e0, mvs_snoc]
                          have e : (mapM (clr k) ⟨my, mn, mt, mz⟩).cells = [.int .u64 (my : Int), .int .u64 (mn : Int), .int .i64 mt, .int .u64 (cz : Int)] := by
                            unfold mapM Mv.cells
                            simp only
                            rw [HCZ.out]
                          rw [e]
                          have h9 := hS9
                          rw [← List.map_take] at h9
                          exact h9
                        have HB9 : Hid (Below W3.heap.size W3 w9) := HB7.out.grown g9 HB7.out.size (fun q e => (hR7.lt q e).1)
                        rw [hj1] at hwj3
                        clear hS9 g9 hR7 z0 z1 z2 z3 y3 yf hx0
                        go_wp2
                        have hbq' := HBQ.out
                        subst hbq'
                        go_roundw
                        case rel => first | exact ⟨j1, rfl, by omega, HR9, HB9⟩ | ((repeat apply Exists.intro); exact ⟨⟨j1, rfl, by omega, HR9, HB9⟩, rfl⟩)
                        case measure => simp [intOf]; omega
                      · have hjm' : decide ((j : Int) < (ml : Int)) = false := decide_eq_false (by omega)
                        have hje : j = ml := by omega
                        subst hje
                        have hmt : ms.take j = ms := List.take_of_length_le (by rw [HML.out]; omega)
                        have hO4 := HO.out.below HBx.out
                        have hM4 := HM.out.belowAll HBx.out
                        have hr4 := own_mono HR.out HBr.out.size
                        rw [hmt] at hr4
                        have hal5 : Below W4.heap.size W4 (W4.alloc (.cells #[.slice ar j cr] 48)) := (Below.refl _ _).alloc (Nat.le_refl _) _
                        have hr5 := hr4.alloc (.cells #[.slice ar j cr] 48)
                        obtain ⟨usx, k1, k2⟩ := hO4.below hal5
                        have q2 := hM4.cell 2
                        simp only [List.getElem?_cons_zero, List.getElem?_cons_succ] at q2
                        have hM5 := hM4.alloc (.cells #[.slice ar j cr] 48)
                        have hB5 := (HBr.out.trans (HBx.out.mono HBr.out.size)).trans (hal5.mono (Nat.le_trans HBr.out.size HBx.out.size))
                        rw [htl] at k1
                        have HK2 := Lib.hid k2
                        have HM5 := Lib.hid hM5
                        have HB5 := Lib.hid hB5
                        have HR5 := Lib.hid hr5
                        obtain ⟨i0, hi0, hz0, hz1, hz2⟩ := info_parts Tryd.info48
                        clear hO4 hM4 hr4 hal5 hr5 k2 hM5 hB5 hG4 hmt
                        go_wp2_with (at_builtin; refine wpList_append_own_at _ rfl (.tmp 123) (.tmp 125) _ rfl W1.heap.size 48 i0 _ 1 24 Tryd.underlying23 hi0 hz0 hz1 hz2 rfl (by omega) (.slice asl i csl) i usx rfl k1 ⟨W4.heap.size, 0, none⟩ 1 1 [.slice ar j cr] rfl rfl ?c1 ?c2 ?c3 ?c4 ?c5 ?_)
                        case c1 => exact cells_of_new _ _ rfl [.slice ar j cr] 48
                        case c2 => simp [Value.oneCell']
                        case c3 => unfold maxLen; omega
                        case c4 => omega
                        case c5 => exact HB5.out.size
                        intro v' w9 hS9 g9 _ _
                        have hwf : ∀ m ∈ ms.map (mapM (clr k)), m.wf := fun m hm => by
                          obtain ⟨m0, hm0, rfl⟩ := List.mem_map.1 hm
                          obtain ⟨v1, v2, v3, v4⟩ := HUS.out.2 m0 hm0
                          refine ⟨v1, v2, v3, ?_⟩
                          show clr k m0.sets < 18446744073709551616
                          exact Nat.lt_of_le_of_lt (Nat.and_le_left) v4
                        have hlen : (ms.map (mapM (clr k))).length = j := by rw [List.length_map, HML.out]
                        have hO9 : OwnG W1.heap.size w9 v' (STS.take i ++ [ms.map (mapM (clr k))]) := OwnG.push (us := usx) (by rw [htl]; exact k1) HK2.out (by rw [hlen]; exact HR5.out) hwf g9 (by rw [htl]; exact hS9)
                        rw [← HTK.out] at hO9
                        have hM9 := own_kept k1 g9 HM5.out (by decide)
                        have hB9 := HB5.out.grown g9 HB5.out.size (fun q e => (k1.lt q e).1)
                        obtain ⟨i1, hi1⟩ : ∃ i1, i + 1 = i1 := ⟨_, rfl⟩
                        rw [hi1] at hS9 hO9 hwi3
                        obtain ⟨a9, c9, rfl, hc9, hm9⟩ := owns_form hS9
                        have t2 := hM9.cell 2
                        have t2f := hM9.free 2
                        simp only [List.getElem?_cons_zero, List.getElem?_cons_succ] at t2
                        have HM9 := Lib.hid (hM9.put 2 (.slice a9 i1 c9))
                        have HO9 := Lib.hid (hO9.put (i := 2) (u := .slice a9 i1 c9) hM9 (by decide) (by decide))
                        have HB9 := Lib.hid (hB9.setCell (p := ⟨W1.heap.size, 2, none⟩) (Nat.le_refl _) (.slice a9 i1 c9))
                        clear hS9 hO9 hM9 hB9 g9 k1 hwf hlen q2
                        go_wp2
                        go_roundw
                        case rel => first | exact ⟨i1, _, rfl, by omega, HM9, HO9, HB9⟩ | ((repeat apply Exists.intro); exact ⟨⟨i1, _, rfl, by omega, HM9, HO9, HB9⟩, rfl⟩)
                        case measure => simp [intOf]; omega
                  · have hin2 : decide ((i : Int) < (n : Int)) = false := decide_eq_false (by omega)
                    have hte : STS.take i = STS := List.take_of_length_le (by rw [HSTL.out]; omega)
                    have hless : GenAt W3.heap.size W3 (.agg #[.int .i64 (k : Int), .slice a1 il cap1, .slice asl i csl]) (mapG (clr k) (k : Int) g) := by
                      refine ⟨.slice a1 il cap1, .slice asl i csl, rfl, ⟨by show -9223372036854775808 ≤ (k : Int); omega, by show (k : Int) ≤ 9223372036854775807; omega⟩, (HI.out.below HB3.out).mono HB3.out.size, ?_⟩
                      have := HO.out.read
                      rw [hte, ← HSTS.out] at this
                      exact this
                    have hgs : ((mapG (clr k) (k : Int) g).states.map List.length).sum ≤ 4000000 := by rw [sum_mapG]; exact hsum
                    have hacl : accCode (mapG (clr k) (k : Int) g) l = 0 := by unfold accCode; rw [if_pos (genOk_less HOK.out (by rw [HSE.out]; exact HK1.out))]; exact hlc
                    have HAL := Lib.hid (genAccepts (mapG (clr k) (k : Int) g) l _ _ W3 hless (HL.out.step HB3.out) hgs hb2)
                    rw [hacl] at HAL
                    have hm := HM.out
                    have q0 := hm.cell 0
                    have q1 := hm.cell 1
                    have q2 := hm.cell 2
                    simp only [List.getElem?_cons_zero, List.getElem?_cons_succ] at q0 q1 q2
                    have HIMP : Hid (accP g l → accP (mapG (clr k) (k : Int) g) l) := accP_less HOK.out (by rw [HSE.out]; exact HK1.out)
                    clear hte hless hgs hacl hm
                    cases b1 with
                    | true =>
                      go_wp2_with (first
                        | (go_at_call 14; refine (HAL.out).mono ?_; rintro e wc ⟨b9, rfl, hp9, hb'⟩; obtain rfl : b9 = true := hp9.2 ⟨rfl, HIMP.out (HIS.out.1 rfl)⟩; have HB9 := Lib.hid (HB3.out.trans (hb'.mono HB3.out.size)); clear hb')
                        | (go_at_call 12; refine (knownFn _).mono ?_; rintro e wc ⟨rfl, hb'⟩; have HBz := Lib.hid (HB9.out.trans (hb'.mono HB9.out.size)); clear hb'))
                      go_ret
                      exact ⟨rfl, HBz.out⟩
                    | false =>
                      go_wp2_with (first
                        | (go_at_call 14; refine (HAL.out).mono ?_; rintro e wc ⟨b9, rfl, hp9, hb'⟩; have HB9 := Lib.hid (HB3.out.trans (hb'.mono HB3.out.size)); clear hb')
                        | (go_at_call 12; refine (knownFn _).mono ?_; rintro e wc ⟨rfl, hb'⟩; have HBz := Lib.hid (HB9.out.trans (hb'.mono HB9.out.size)); clear hb'))
                      go_ret
                      exact ⟨rfl, HBz.out⟩
    | false =>
      go_enter Tryd.func7, Tryd.ntmps7
      go_wp2_with (first
      | (go_at_call 11; refine (littleFn g l _ _ _ (HG.out.step HBc.out) (HL.out.step HBc.out) hgn hb2).mono ?_; rintro e wc ⟨rfl, hb'⟩; rw [hT]; have HGc := Lib.hid (HGc.out.belowAll hb'); have HLc := Lib.hid (HLc.out.belowAll hb'); have HBc := Lib.hid (HBc.out.trans (hb'.mono HBc.out.size)); have d0 := HGc.out.cell 0; have d1 := HGc.out.cell 1; have d2 := HGc.out.cell 2; have d3 := HLc.out.cell 0; have d4 := HLc.out.cell 1; simp only [List.getElem?_cons_zero, List.getElem?_cons_succ] at d0 d1 d2 d3 d4; clear hb')
      | (go_at_call 12; refine (knownFn _).mono ?_; rintro e wc ⟨rfl, hb'⟩; have HGc := Lib.hid (HGc.out.belowAll hb'); have HLc := Lib.hid (HLc.out.belowAll hb'); have HBc := Lib.hid (HBc.out.trans (hb'.mono HBc.out.size)); have d0 := HGc.out.cell 0; have d1 := HGc.out.cell 1; have d2 := HGc.out.cell 2; have d3 := HLc.out.cell 0; have d4 := HLc.out.cell 1; simp only [List.getElem?_cons_zero, List.getElem?_cons_succ] at d0 d1 d2 d3 d4; clear hb')
      | (go_at_call 14; refine (genAccepts g l _ _ _ (HG.out.step HBc.out) (HL.out.step HBc.out) hsum hb2).mono ?_; rintro e wc ⟨b1, rfl, hp1, hb'⟩; rw [hK]; rw [hK] at hp1; have HGc := Lib.hid (HGc.out.belowAll hb'); have HLc := Lib.hid (HLc.out.belowAll hb'); have HBc := Lib.hid (HBc.out.trans (hb'.mono HBc.out.size)); have d0 := HGc.out.cell 0; have d1 := HGc.out.cell 1; have d2 := HGc.out.cell 2; have d3 := HLc.out.cell 0; have d4 := HLc.out.cell 1; simp only [List.getElem?_cons_zero, List.getElem?_cons_succ] at d0 d1 d2 d3 d4; clear hb'))
      go_ret
      exact ⟨rfl, HBc.out⟩
  · have f2 : ((K : Int) != 0) = true := by simp; exact hK0
    have f3 : ¬ ((K : Int) = 0) := by omega
    go_enter Tryd.func7, Tryd.ntmps7
    go_wp2_with (first
      | (go_at_call 11; refine (littleFn g l _ _ _ (HG.out.step HBc.out) (HL.out.step HBc.out) hgn hb2).mono ?_; rintro e wc ⟨rfl, hb'⟩; rw [hT]; have HGc := Lib.hid (HGc.out.belowAll hb'); have HLc := Lib.hid (HLc.out.belowAll hb'); have HBc := Lib.hid (HBc.out.trans (hb'.mono HBc.out.size)); have d0 := HGc.out.cell 0; have d1 := HGc.out.cell 1; have d2 := HGc.out.cell 2; have d3 := HLc.out.cell 0; have d4 := HLc.out.cell 1; simp only [List.getElem?_cons_zero, List.getElem?_cons_succ] at d0 d1 d2 d3 d4; clear hb')
      | (go_at_call 12; refine (knownFn _).mono ?_; rintro e wc ⟨rfl, hb'⟩; have HGc := Lib.hid (HGc.out.belowAll hb'); have HLc := Lib.hid (HLc.out.belowAll hb'); have HBc := Lib.hid (HBc.out.trans (hb'.mono HBc.out.size)); have d0 := HGc.out.cell 0; have d1 := HGc.out.cell 1; have d2 := HGc.out.cell 2; have d3 := HLc.out.cell 0; have d4 := HLc.out.cell 1; simp only [List.getElem?_cons_zero, List.getElem?_cons_succ] at d0 d1 d2 d3 d4; clear hb')
      | (go_at_call 14; refine (genAccepts g l _ _ _ (HG.out.step HBc.out) (HL.out.step HBc.out) hsum hb2).mono ?_; rintro e wc ⟨b1, rfl, hp1, hb'⟩; rw [hK]; rw [hK] at hp1; have HGc := Lib.hid (HGc.out.belowAll hb'); have HLc := Lib.hid (HLc.out.belowAll hb'); have HBc := Lib.hid (HBc.out.trans (hb'.mono HBc.out.size)); have d0 := HGc.out.cell 0; have d1 := HGc.out.cell 1; have d2 := HGc.out.cell 2; have d3 := HLc.out.cell 0; have d4 := HLc.out.cell 1; simp only [List.getElem?_cons_zero, List.getElem?_cons_succ] at d0 d1 d2 d3 d4; clear hb'))
    go_ret
    exact ⟨rfl, HBc.out⟩
end Go.Proofs.YtelanndleinabaaDoor
