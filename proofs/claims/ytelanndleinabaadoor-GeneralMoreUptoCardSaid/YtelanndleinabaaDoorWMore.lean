/- The walk of GeneralMore. -/
import Derived.Test.YtelanndleinabaaDoorRAcc
import Derived.Test.YtelanndleinabaaDoorMoreS
import Derived.Deep.RegionHeld3
namespace Go.Proofs.YtelanndleinabaaDoor
open Go.RowKit
set_option linter.unusedVariables false

theorem dis_sym {a b : Option Nat} (h : a = none ∨ a ≠ b) : b = none ∨ b ≠ a := by
  cases b with
  | none => exact .inl rfl
  | some x =>
    refine .inr fun e => ?_
    rcases h with h | h
    · rw [h] at e; cases e
    · exact h e.symm
theorem dis_new {a b b' : Option Nat} {m : Nat} (h : a = none ∨ a ≠ b) (hor : b' = b ∨ b' = some m) (ha : ∀ x, a = some x → x ≠ m) : a = none ∨ a ≠ b' := by
  rcases hor with rfl | rfl
  · exact h
  · cases a with
    | none => exact .inl rfl
    | some x => exact .inr fun e => ha x rfl (Option.some.inj e)
theorem setb_wf {k a : Nat} (ha : a < 18446744073709551616) (hk : k < 64) : setb k a < 18446744073709551616 :=
  Nat.or_lt_two_pow (n := 64) ha (Nat.pow_lt_pow_right (by omega) hk)
theorem flatMap_dup_snoc (ms : List Mv) (m : Mv) : (ms ++ [m]).flatMap dup = ms.flatMap dup ++ [m, m] := by simp [dup]
theorem mvs_two (ms : List Mv) (a b : Mv) : mvs (ms ++ [a, b]) = mvs ms ++ (a.cells ++ b.cells) := by simp [mvs]
set_option maxHeartbeats 16000000 in
set_option maxRecDepth 100000 in
theorem lawMore (g : Gen) (l : Las) (vg vl : Value) (w : World) (hg : GenAt w.heap.size w vg g) (hl : LasAt w.heap.size w vl l) (hb : (g.states.map List.length).sum ≤ 2000000) (hb1 : g.states.length ≤ 2000000) (hb2 : l.pre.length + l.loop.length ≤ 4000000) :
    Calls Tryd.prog 6 #[vg, vl] w fun e w' => e = .returned (.bool true) ∧ Below w.heap.size w w' := by
  have HG := Lib.hid hg
  have HL := Lib.hid hl
  obtain ⟨va, vb, rfl, hs, ha, hbb⟩ := hg
  obtain ⟨a1, cap1, rfl, hc1, hm1⟩ := ha.form
  obtain ⟨a2, cap2, rfl, hc2, hm2⟩ := hbb.form
  obtain ⟨vp, vq, rfl, hp, hq⟩ := hl
  obtain ⟨a3, cap3, rfl, hc3, hm3⟩ := hp.form
  obtain ⟨a4, cap4, rfl, hc4, hm4⟩ := hq.form
  obtain ⟨n, hne⟩ : ∃ n, g.states.length = n := ⟨_, rfl⟩
  obtain ⟨il, hile⟩ : ∃ il, g.init.length = il := ⟨_, rfl⟩
  obtain ⟨p1, hp1⟩ : ∃ p1, l.pre.length = p1 := ⟨_, rfl⟩
  obtain ⟨p2, hp2⟩ : ∃ p2, l.loop.length = p2 := ⟨_, rfl⟩
  obtain ⟨S, hS⟩ : ∃ S, g.sets = S := ⟨_, rfl⟩
  have HI := Lib.hid ha
  have HS := Lib.hid hbb
  rw [hile] at HI
  rw [hne] at HS
  rw [hne, hile, hS] at HG
  rw [hp1, hp2] at HL
  rw [hp1, hp2, hne, hile, hS]
  have hsum : (g.states.map List.length).sum ≤ 4000000 := by omega
  have hgn : genN g ≤ 4000000 := by unfold genN; omega
  have hB0 : Below w.heap.size w ((w.alloc (.cells #[.int .i64 S, .slice a1 il cap1, .slice a2 n cap2] 25)).alloc (.cells #[.slice a3 p1 cap3, .slice a4 p2 cap4] 28)) := ((Below.refl _ _).alloc (Nat.le_refl _) _).alloc (by simp) _
  have hG0 : Holds ((w.alloc (.cells #[.int .i64 S, .slice a1 il cap1, .slice a2 n cap2] 25)).alloc (.cells #[.slice a3 p1 cap3, .slice a4 p2 cap4] 28)) w.heap.size 25 [.int .i64 S, .slice a1 il cap1, .slice a2 n cap2] := (Holds.new w 25 #[.int .i64 S, .slice a1 il cap1, .slice a2 n cap2]).alloc _
  have hL0 : Holds ((w.alloc (.cells #[.int .i64 S, .slice a1 il cap1, .slice a2 n cap2] 25)).alloc (.cells #[.slice a3 p1 cap3, .slice a4 p2 cap4] 28)) (w.heap.size + 1) 28 [.slice a3 p1 cap3, .slice a4 p2 cap4] := holds_at (k := w.heap.size + 1) (by simp) 28 #[.slice a3 p1 cap3, .slice a4 p2 cap4]
  have c0 := hG0.cell 0
  have c1 := hG0.cell 1
  have c2 := hG0.cell 2
  simp only [List.getElem?_cons_zero, List.getElem?_cons_succ] at c0 c1 c2
  have HB0 := Lib.hid hB0
  have HG0 := Lib.hid hG0
  have HL0 := Lib.hid hL0
  have HGc := Lib.hid hG0
  have HLc := Lib.hid hL0
  have HBc := Lib.hid hB0
  have HNE := Lib.hid hne
  have HIL := Lib.hid hile
  have HSE := Lib.hid hS
  clear hB0 hG0 hL0 HB0 HG0 HL0 hs ha hbb hp hq hne hile hp1 hp2 hS
  obtain ⟨K, hK⟩ : ∃ K, accCode g l = K := ⟨_, rfl⟩
  by_cases hK0 : K = 0
  · subst hK0
    by_cases hS60 : S < 60
    · have hs1 : decide ((60 : Int) ≤ S) = false := decide_eq_false (by omega)
      by_cases hn3 : n ≤ 300
      · have hs2 : decide ((300 : Int) < (n : Int)) = false := decide_eq_false (by omega)
        have hok : genOk g = true := by
          cases h : genOk g with
          | true => rfl
          | false => unfold accCode at hK; rw [h] at hK; simp at hK
        have hlc : lasCode l = 0 := by unfold accCode at hK; rw [if_pos hok] at hK; exact hK
        obtain ⟨hp0, hpi, hpm⟩ := genOk_parts hok
        obtain ⟨k, hk⟩ : ∃ k : Nat, S = (k : Int) := ⟨S.toNat, by have := HSE.out; have := hp0.1; omega⟩
        subst hk
        obtain ⟨k1, hk1⟩ : ∃ k1, k + 1 = k1 := ⟨_, rfl⟩
        have hadd : IntKind.i64.wrap ((k : Int) + 1) = (k1 : Int) := by rw [wrap_small (by omega) (by omega)]; omega
        have HK1 := Lib.hid hk1
        have HOK := Lib.hid hok
        have HPM := Lib.hid hpm
        have hc1' : il ≤ cap1 := by rw [← HIL.out]; exact hc1
        clear hp0 hpi hpm hk1 hok c0 c1 c2
        go_enter Tryd.func6, Tryd.ntmps6
        go_wp2_with (first
      | (go_at_call 12; refine (knownFn _).mono ?_; rintro e wc ⟨rfl, hb'⟩; have HGc := Lib.hid (HGc.out.belowAll hb'); have HLc := Lib.hid (HLc.out.belowAll hb'); have HBc := Lib.hid (HBc.out.trans (hb'.mono HBc.out.size)); have d0 := HGc.out.cell 0; have d1 := HGc.out.cell 1; have d2 := HGc.out.cell 2; have d3 := HLc.out.cell 0; have d4 := HLc.out.cell 1; simp only [List.getElem?_cons_zero, List.getElem?_cons_succ] at d0 d1 d2 d3 d4; clear hb')
      | (go_at_call 14; refine (genAccepts g l _ _ _ (HG.out.step HBc.out) (HL.out.step HBc.out) hsum hb2).mono ?_; rintro e wc ⟨b1, rfl, hp1, hb'⟩; rw [hK]; rw [hK] at hp1; have HGc := Lib.hid (HGc.out.belowAll hb'); have HLc := Lib.hid (HLc.out.belowAll hb'); have HBc := Lib.hid (HBc.out.trans (hb'.mono HBc.out.size)); have d0 := HGc.out.cell 0; have d1 := HGc.out.cell 1; have d2 := HGc.out.cell 2; have d3 := HLc.out.cell 0; have d4 := HLc.out.cell 1; simp only [List.getElem?_cons_zero, List.getElem?_cons_succ] at d0 d1 d2 d3 d4; have e0 := (HGc.out.alloc (.cells #[.int .i64 (k1 : Int), .slice a1 il cap1, .slice none 0 0] 25)).cell 0; have e1 := (HGc.out.alloc (.cells #[.int .i64 (k1 : Int), .slice a1 il cap1, .slice none 0 0] 25)).cell 1; simp only [List.getElem?_cons_zero, List.getElem?_cons_succ] at e0 e1; clear hb'))
        have HIS : Hid (b1 = true ↔ accP g l) := ⟨fun h => (hp1.1 h).2, fun h => hp1.2 ⟨rfl, h⟩⟩
        clear d0 d1 d2 d3 d4 e0 e1 hp1
        obtain ⟨W1, rfl⟩ : ∃ W, W = wc := ⟨wc, rfl⟩
        obtain ⟨STS, hSTS⟩ : ∃ STS, g.states.map (List.map (mapM (setb k))) = STS := ⟨_, rfl⟩
        obtain ⟨TTS, hTTS⟩ : ∃ TTS, g.states.map (List.flatMap dup) = TTS := ⟨_, rfl⟩
        have hSTl : STS.length = n := by rw [← hSTS, List.length_map, HNE.out]
        have hTTl : TTS.length = n := by rw [← hTTS, List.length_map, HNE.out]
        have HSTS := Lib.hid hSTS
        have HTTS := Lib.hid hTTS
        have HSTL := Lib.hid hSTl
        have HTTL := Lib.hid hTTl
        have HB2 : Hid (Below W1.heap.size W1 ((W1.alloc (.cells #[.int .i64 (k1 : Int), .slice a1 il cap1, .slice none 0 0] 25)).alloc (.cells #[.int .i64 (k : Int), .slice a1 il cap1, .slice none 0 0] 25))) := ((Below.refl _ _).alloc (Nat.le_refl _) _).alloc (by simp) _
        have HM2 : Hid (Holds ((W1.alloc (.cells #[.int .i64 (k1 : Int), .slice a1 il cap1, .slice none 0 0] 25)).alloc (.cells #[.int .i64 (k : Int), .slice a1 il cap1, .slice none 0 0] 25)) W1.heap.size 25 [.int .i64 (k1 : Int), .slice a1 il cap1, .slice none 0 0]) := (Holds.new W1 25 #[.int .i64 (k1 : Int), .slice a1 il cap1, .slice none 0 0]).alloc _
        have HT2 : Hid (Holds ((W1.alloc (.cells #[.int .i64 (k1 : Int), .slice a1 il cap1, .slice none 0 0] 25)).alloc (.cells #[.int .i64 (k : Int), .slice a1 il cap1, .slice none 0 0] 25)) (W1.heap.size + 1) 25 [.int .i64 (k : Int), .slice a1 il cap1, .slice none 0 0]) := holds_at (by simp) 25 #[.int .i64 (k : Int), .slice a1 il cap1, .slice none 0 0]
        have HO2 : Hid (OwnG W1.heap.size ((W1.alloc (.cells #[.int .i64 (k1 : Int), .slice a1 il cap1, .slice none 0 0] 25)).alloc (.cells #[.int .i64 (k : Int), .slice a1 il cap1, .slice none 0 0] 25)) (.slice none 0 0) (STS.take 0)) := OwnG.nil _ _
        have HU2 : Hid (OwnG W1.heap.size ((W1.alloc (.cells #[.int .i64 (k1 : Int), .slice a1 il cap1, .slice none 0 0] 25)).alloc (.cells #[.int .i64 (k : Int), .slice a1 il cap1, .slice none 0 0] 25)) (.slice none 0 0) (TTS.take 0)) := OwnG.nil _ _
        have HD2 : Hid ((Value.slice none 0 0).ownBlock = none ∨ (Value.slice none 0 0).ownBlock ≠ (Value.slice none 0 0).ownBlock) := .inl rfl
        clear hSTS hTTS hSTl hTTl
        generalize hbm : W1.heap.size = bm at *
        generalize hbt : bm + 1 = bt at *
        generalize hbl : w.heap.size + 1 = bl at *
        go_loopw [9] (fun y wr => ∃ (i : Nat) (vst vtt : Value), y = .int .i64 (i : Int) ∧ i ≤ n ∧ Hid (Holds wr bm 25 [.int .i64 (k1 : Int), .slice a1 il cap1, vst]) ∧ Hid (Holds wr bt 25 [.int .i64 (k : Int), .slice a1 il cap1, vtt]) ∧ Hid (OwnG bm wr vst (STS.take i)) ∧ Hid (OwnG bm wr vtt (TTS.take i)) ∧ Hid (vst.ownBlock = none ∨ vst.ownBlock ≠ vtt.ownBlock) ∧ Hid (Below bm W1 wr)) (fun y _ => (n + 10 - intOf y).toNat)
        case atStart => exact ⟨0, _, _, rfl, Nat.zero_le _, HM2, HT2, HO2, HU2, HD2, HB2⟩
        case round =>
          clear HM2 HT2 HO2 HU2 HB2 HD2
          obtain ⟨i, vst, vtt, rfl, hi, HM, HTW, HO, HU, HD, HBr⟩ := hrel
          obtain ⟨W3, rfl⟩ : ∃ W, W = wr := ⟨wr, rfl⟩
          have hG3 := HGc.out.below HBr.out (by rw [← hbm]; exact HGc.out.lt)
          have hL3 := HLc.out.below HBr.out (by rw [← hbm]; exact HLc.out.lt)
          have d0 := hG3.cell 0
          have d2 := hG3.cell 2
          have d3 := hL3.cell 0
          have d4 := hL3.cell 1
          simp only [List.getElem?_cons_zero, List.getElem?_cons_succ] at d0 d2 d3 d4
          have HB3 : Hid (Below w.heap.size w W3) := HBc.out.trans (HBr.out.mono (by rw [← hbm]; exact HBc.out.size))
          have HG3 := Lib.hid hG3
          have HL3 := Lib.hid hL3
          have htl : (STS.take i).length = i := by rw [List.length_take, HSTL.out]; omega
          have htl2 : (TTS.take i).length = i := by rw [List.length_take, HTTL.out]; omega
          obtain ⟨asl, csl, rfl, hcsl, hmsl⟩ := HO.out.form
          obtain ⟨atl, ctl, rfl, hctl, hmtl⟩ := HU.out.form
          rw [htl] at HO HM hcsl HD
          rw [htl2] at HU HTW hctl HD
          have hbmw : bm ≤ W3.heap.size := by
            have := HBr.out.size
            omega
          clear hG3 hL3
          by_cases hin : i < n
          · have hin2 : (i : Int) < (n : Int) := by omega
            obtain ⟨gs, os, us, rfl, hgs, e0, hus⟩ := (HS.out.below HB3.out).at (k := i) (by rw [HNE.out]; exact hin)
            have hsq : g.states[i]? = some (g.states[i]'(by rw [HNE.out]; exact hin)) := List.getElem?_eq_getElem _
            have hml4 := (HPM.out _ (List.mem_of_getElem? hsq)).1
            have htq : STS[i]? = some ((g.states[i]'(by rw [HNE.out]; exact hin)).map (mapM (setb k))) := by rw [← HSTS.out, List.getElem?_map, hsq]; rfl
            have htq2 : TTS[i]? = some ((g.states[i]'(by rw [HNE.out]; exact hin)).flatMap dup) := by rw [← HTTS.out, List.getElem?_map, hsq]; rfl
            have htk := take_at htq
            have htk2 := take_at htq2
            generalize g.states[i]'(by rw [HNE.out]; exact hin) = ms at hus hsq hml4 htq htk htq2 htk2
            obtain ⟨a6, cap6, rfl, hc6, hm6⟩ := hus.form
            obtain ⟨ml, hmle⟩ : ∃ ml, ms.length = ml := ⟨_, rfl⟩
            rw [hmle] at e0 hus hc6 hml4
            have HML := Lib.hid hmle
            have HUS := Lib.hid hus
            have HTK := Lib.hid htk
            have HTK2 := Lib.hid htk2
            have hwi3 : IntKind.i64.wrap ((i : Int) + 1) = ((i + 1 : Nat) : Int) := by rw [wrap_small (by omega) (by omega)]; omega
            have HR0 : Hid (W3.ownsRow W3.heap.size 53 4 (.slice none 0 0) 0 (mvs ((ms.take 0).map (mapM (setb k))))) := World.ownsRow_nil _ _ _ _
            have HV0 : Hid (W3.ownsRow W3.heap.size 53 4 (.slice none 0 0) 0 (mvs ((ms.take 0).flatMap dup))) := World.ownsRow_nil _ _ _ _
            have HD0 : Hid ((Value.slice none 0 0).ownBlock = none ∨ (Value.slice none 0 0).ownBlock ≠ (Value.slice none 0 0).ownBlock) := .inl rfl
            have hi300 : i < 1000 := by omega
            clear hmle hus hsq htq htk htq2 htk2
            go_wp2
            go_loopw [10, 11, 12] (fun u v y wr => ∃ j jj : Nat, y = .int .i64 (j : Int) ∧ jj = 2 * j ∧ j ≤ ml ∧ j ≤ 300 ∧ Hid (wr.ownsRow W3.heap.size 53 4 u j (mvs ((ms.take j).map (mapM (setb k))))) ∧ Hid (wr.ownsRow W3.heap.size 53 4 v jj (mvs ((ms.take j).flatMap dup))) ∧ Hid (u.ownBlock = none ∨ u.ownBlock ≠ v.ownBlock) ∧ Hid (Below W3.heap.size W3 wr)) (fun _ _ y _ => (ml + 10 - intOf y).toNat)
            case atStart => exact ⟨0, 0, rfl, rfl, Nat.zero_le _, by omega, HR0, HV0, HD0, Below.refl _ _⟩
            case round =>
              clear HR0 HV0 HD0
              obtain ⟨j, jj, rfl, hjj, hj, hj3, HR, HV, HDD, HBx⟩ := hrel
              obtain ⟨W4, rfl⟩ : ∃ W, W = wr := ⟨wr, rfl⟩
              have HJJ := Lib.hid hjj
              have hjj6 : jj ≤ 600 := by omega
              clear hjj
              obtain ⟨ar, cr, rfl, hcr, hmr⟩ := owns_form HR.out
              obtain ⟨av, cv, rfl, hcv, hmv⟩ := owns_form HV.out
              have HBw4 : Hid (Below w.heap.size W3 W4) := HBx.out.mono HB3.out.size
              have hG4 := HG3.out.belowAll HBx.out
              have x0 := hG4.cell 0
              have x2 := hG4.cell 2
              have x3 : W4.cell? ⟨gs, os + i, none⟩ = some (.slice a6 ml cap6) := (cell_below HBw4.out hgs _).trans e0
              simp only [List.getElem?_cons_zero, List.getElem?_cons_succ] at x0 x2
              by_cases hjm : j < ml ∧ j < 300
              · obtain ⟨hjm, hj30⟩ := hjm
                have hjm' : (j : Int) < (ml : Int) := by omega
                have hj30' : (j : Int) < 300 := by omega
                obtain ⟨g6, o6, rfl, hg6, m0, m1, m2, m3⟩ := (HUS.out.below HBw4.out).at (k := j) (by rw [HML.out]; exact hjm)
                have hmq : ms[j]? = some (ms[j]'(by rw [HML.out]; exact hjm)) := List.getElem?_eq_getElem _
                have htj := take_at hmq
                have hmw := HUS.out.2 _ (List.mem_of_getElem? hmq)
                generalize ms[j]'(by rw [HML.out]; exact hjm) = mv at m0 m1 m2 m3 hmq htj hmw
                obtain ⟨my, mn, mt, mz⟩ := mv
                simp only at m0 m1 m2 m3 hmw
                obtain ⟨hy1, hy2, hy3, hy4⟩ := hmw
                simp only at hy1 hy2 hy3 hy4
                have hpl : 2 ^ k < 18446744073709551616 := Nat.lt_of_le_of_lt (Nat.pow_le_pow_right (by omega) (show k ≤ 60 by omega)) (by decide)
                have hpow : (2 : Int) ^ k = ((2 ^ k : Nat) : Int) := by norm_cast
                have hbit := bits_or_u64_nat mz (2 ^ k) hy4 hpl
                have hcl : setb k mz = mz ||| 2 ^ k := rfl
                rw [← hcl] at hbit
                obtain ⟨P2, hP2⟩ : ∃ P2, 2 ^ k = P2 := ⟨_, rfl⟩
                rw [hP2] at hpl hpow hbit
                have hShl : IntKind.u64.wrap ((2 : Int) ^ k) = (P2 : Int) := by rw [hpow, IntKind.wrap_u64]; omega
                obtain ⟨cz, hcz⟩ : ∃ cz, setb k mz = cz := ⟨_, rfl⟩
                rw [hcz] at hbit
                have HCZ := Lib.hid hcz
                have HTJ := Lib.hid htj
                have hal5 : Below W4.heap.size W4 (W4.alloc (.cells #[.int .u64 (my : Int), .int .u64 (mn : Int), .int .i64 mt, .int .u64 (mz : Int)] 53)) := (Below.refl _ _).alloc (Nat.le_refl _) _
                have hal6 : Below W4.heap.size W4 ((W4.alloc (.cells #[.int .u64 (my : Int), .int .u64 (mn : Int), .int .i64 mt, .int .u64 (mz : Int)] 53)).alloc (.cells #[.int .u64 (my : Int), .int .u64 (mn : Int), .int .i64 mt, .int .u64 (mz : Int), .int .u64 (my : Int), .int .u64 (mn : Int), .int .i64 mt, .int .u64 (mz : Int)] 53)) := hal5.alloc hal5.size _
                have hQ5 := Holds.new W4 53 #[.int .u64 (my : Int), .int .u64 (mn : Int), .int .i64 mt, .int .u64 (mz : Int)]
                have hQ6 := hQ5.alloc (.cells #[.int .u64 (my : Int), .int .u64 (mn : Int), .int .i64 mt, .int .u64 (mz : Int), .int .u64 (my : Int), .int .u64 (mn : Int), .int .i64 mt, .int .u64 (mz : Int)] 53)
                have hR6 := (Fr.of_below hal6 (fun _ => False)).owns HR.out (fun _ _ h => h)
                have hV6 := (Fr.of_below hal6 (fun _ => False)).owns HV.out (fun _ _ h => h)
                have hB6 := HBx.out.trans (hal6.mono HBx.out.size)
                have hG6 := hG4.belowAll hal6
                have z0 := hQ5.cell 0
                have z1 := hQ5.cell 1
                have z2 := hQ5.cell 2
                have z3 := hQ5.cell 3
                simp only [List.getElem?_cons_zero, List.getElem?_cons_succ] at z0 z1 z2 z3
                have HQ6 := Lib.hid hQ6
                have HR6 := Lib.hid hR6
                have HG6 := Lib.hid hG6
                have HB6 := Lib.hid hB6
                have hrlt : ∀ b, (Value.slice ar j cr).ownBlock = some b → b < W4.heap.size := fun b e => (HR.out.lt _ e).2
                have hvlt : ∀ b, (Value.slice av jj cv).ownBlock = some b → b < W4.heap.size := fun b e => (HV.out.lt _ e).2
                have HRL := Lib.hid hrlt
                have HVL := Lib.hid hvlt
                have hwj3 : IntKind.i64.wrap ((j : Int) + 1) = ((j + 1 : Nat) : Int) := by rw [wrap_small (by omega) (by omega)]; omega
                have hW3s : W3.heap.size ≤ W4.heap.size := HBx.out.size
                obtain ⟨i0, hi0, hz0, hz1, hz2⟩ := info_parts Tryd.info53
                clear hpl hpow hcl hP2 hcz htj hmq hal5 hal6 hQ5 hQ6 hR6 hB6 hrlt hvlt hG4 hG6
                go_wp2_with (at_builtin; refine wpList_append_own_at _ rfl (.tmp 78) (.tmp 81) _ rfl W3.heap.size 53 i0 _ 4 32 Tryd.underlying48 hi0 hz0 hz1 hz2 rfl (by omega) (.slice av jj cv) jj _ rfl hV6 ⟨W4.heap.size + 1, 0, none⟩ 2 2 [.int .u64 (my : Int), .int .u64 (mn : Int), .int .i64 mt, .int .u64 (mz : Int), .int .u64 (my : Int), .int .u64 (mn : Int), .int .i64 mt, .int .u64 (mz : Int)] rfl rfl ?c1 ?c2 ?c3 ?c4 ?c5 ?_)
                case c2 => simp [Value.oneCell']
                case c3 => unfold maxLen; omega
                case c4 => omega
                case c5 => first | exact HB6.out.size | omega | (simp; omega)
                intro v7 w7 hS7 g7 _ hor7
                have hsz6 : ((W4.alloc (.cells #[.int .u64 (my : Int), .int .u64 (mn : Int), .int .i64 mt, .int .u64 (mz : Int)] 53)).alloc (.cells #[.int .u64 (my : Int), .int .u64 (mn : Int), .int .i64 mt, .int .u64 (mz : Int), .int .u64 (my : Int), .int .u64 (mn : Int), .int .i64 mt, .int .u64 (mz : Int)] 53)).heap.size = W4.heap.size + 1 + 1 := by simp
                have hor7' : v7.ownBlock = (Value.slice av jj cv).ownBlock ∨ v7.ownBlock = some (W4.heap.size + 1 + 1) := by
                  rcases hor7 with h | h
                  · exact .inl h
                  · exact .inr (by simpa using h)
                have hR7 := HR6.out.kept g7 HDD.out
                have hQ7 := HQ6.out.of_eq (g7.block _ HQ6.out.lt (fun e => by have := HVL.out _ e.symm; omega))
                have hG7 := HG6.out.of_eq (g7.block _ HG6.out.lt (fun e => by
                  have h1 := HVL.out _ e.symm
                  have h2 := (hV6.lt _ e.symm).1
                  have h3 := HG3.out.lt
                  omega))
                have hB7 := HB6.out.grown g7 HB6.out.size (fun q e => (hV6.lt q e).1)
                have hD7 := dis_new HDD.out hor7' (fun x hx => by have := HRL.out x hx; omega)
                obtain ⟨jv, hjv⟩ : ∃ jv, jj + 2 = jv := ⟨_, rfl⟩
                rw [hjv] at hS7
                obtain ⟨a7, c7, rfl, hc7, hm7⟩ := owns_form hS7
                obtain ⟨bq, hbq⟩ : ∃ bq, W4.heap.size = bq := ⟨_, rfl⟩
                rw [hbq] at hQ7
                simp only [hbq]
                have y3 := hQ7.cell 3
                have yf := hQ7.free 3
                have x7 := hG7.cell 0
                simp only [List.getElem?_cons_zero, List.getElem?_cons_succ] at y3 x7
                have hv7 : ∀ q, (Value.slice a7 jv c7).ownBlock = some q → q ≠ bq := fun q e => by
                  rcases hor7' with h | h
                  · have := HVL.out q (by rw [← h]; exact e)
                    omega
                  · rw [h] at e
                    have := Option.some.inj e
                    omega
                have hQ8 := Holds.drew (hQ7.put 3 (.int .u64 (cz : Int)))
                have w0 := hQ8.cell 0
                have w1 := hQ8.cell 1
                have w2 := hQ8.cell 2
                have w3 := hQ8.cell 3
                simp only [List.set_cons_zero, List.set_cons_succ, List.getElem?_cons_zero, List.getElem?_cons_succ] at w0 w1 w2 w3
                have hF8 := ((Fr.refl (fun q => q = bq) w7).setCell (p := ⟨bq, 3, none⟩) (fun _ => rfl) (.int .u64 (cz : Int))).drew
                have hR8 := hF8.owns hR7 (fun q hq e => by have := HRL.out q hq; omega)
                have hV8 := hF8.owns hS7 (fun q hq e => hv7 q hq e)
                have hB8 : Below W3.heap.size W3 ((w7.setCell ⟨bq, 3, none⟩ (.int .u64 (cz : Int))).drew) := Below.drew (hB7.setCell (p := ⟨bq, 3, none⟩) (by show W3.heap.size ≤ bq; omega) (.int .u64 (cz : Int)))
                have hal9 : Below ((w7.setCell ⟨bq, 3, none⟩ (.int .u64 (cz : Int))).drew).heap.size ((w7.setCell ⟨bq, 3, none⟩ (.int .u64 (cz : Int))).drew) (((w7.setCell ⟨bq, 3, none⟩ (.int .u64 (cz : Int))).drew).alloc (.cells #[.int .u64 (my : Int), .int .u64 (mn : Int), .int .i64 mt, .int .u64 (cz : Int)] 53)) := (Below.refl _ _).alloc (Nat.le_refl _) _
                have hR9 := hR8.alloc (.cells #[.int .u64 (my : Int), .int .u64 (mn : Int), .int .i64 mt, .int .u64 (cz : Int)] 53)
                have HV9 := Lib.hid (hV8.alloc (.cells #[.int .u64 (my : Int), .int .u64 (mn : Int), .int .i64 mt, .int .u64 (cz : Int)] 53))
                have HB9 := Lib.hid (hB8.trans (hal9.mono hB8.size))
                have HD7 := Lib.hid hD7
                have hs9 : w7.heap.size ≤ (((w7.setCell ⟨bq, 3, none⟩ (.int .u64 (cz : Int))).drew).alloc (.cells #[.int .u64 (my : Int), .int .u64 (mn : Int), .int .i64 mt, .int .u64 (cz : Int)] 53)).heap.size := by simp [World.setCell, World.drew]
                have hv7s : ∀ q, (Value.slice a7 jv c7).ownBlock = some q → q < w7.heap.size := fun q e => (hS7.lt q e).2
                have HV7 := Lib.hid hv7s
                have HBQ := Lib.hid hbq
                have HG7 := Lib.hid hG7
                clear hbq hQ7 hQ8 hF8 hR8 hV8 hB8 hal9 hD7 hS7 g7 hor7 hor7' hR7 hB7 hV6 hv7 hv7s hG7 m0 m1 m2 m3 z0 z1 z2 z3 x2 x3 x0
                go_wp2
                go_region
                go_wp2_with (at_builtin; refine wpList_append_own_at _ rfl (.tmp 90) (.tmp 92) _ rfl W3.heap.size 53 i0 _ 4 32 Tryd.underlying48 hi0 hz0 hz1 hz2 rfl (by omega) (.slice ar j cr) j _ rfl hR9 ⟨w7.heap.size, 0, none⟩ 1 1 [.int .u64 (my : Int), .int .u64 (mn : Int), .int .i64 mt, .int .u64 (cz : Int)] rfl rfl ?p1 ?p2 ?p3 ?p4 ?p5 ?_)
                case p1 => exact cells_of_new _ _ (by simp) [.int .u64 (my : Int), .int .u64 (mn : Int), .int .i64 mt, .int .u64 (cz : Int)] 53
                case p2 => simp [Value.oneCell']
                case p3 => unfold maxLen; omega
                case p4 => omega
                case p5 => exact HB9.out.size
                intro u10 w10 hS10 g10 _ hor10
                have hV10 := HV9.out.kept g10 (dis_sym HD7.out)
                have hB10 := HB9.out.grown g10 HB9.out.size (fun q e => (hR9.lt q e).1)
                have hor10' : u10.ownBlock = (Value.slice ar j cr).ownBlock ∨ u10.ownBlock = some (w7.heap.size + 1) := by
                  rcases hor10 with h | h
                  · exact .inl h
                  · exact .inr (by simpa using h)
                have hD10 := dis_sym (dis_new (dis_sym HD7.out) hor10' (fun x hx => by have := HV7.out x hx; omega))
                obtain ⟨j1, hj1⟩ : ∃ j1, j + 1 = j1 := ⟨_, rfl⟩
                rw [hj1] at hS10 hwj3
                obtain ⟨a9, c9, rfl, hc9, hm9⟩ := owns_form hS10
                have HR10 : Hid (w10.ownsRow W3.heap.size 53 4 (.slice a9 j1 c9) j1 (mvs ((ms.take j1).map (mapM (setb k))))) := by
                  have e0 : (ms.take j1).map (mapM (setb k)) = (ms.take j).map (mapM (setb k)) ++ [mapM (setb k) ⟨my, mn, mt, mz⟩] := by
                    rw [← hj1, HTJ.out, List.map_append]; rfl
                  have e : (mapM (setb k) ⟨my, mn, mt, mz⟩).cells = [.int .u64 (my : Int), .int .u64 (mn : Int), .int .i64 mt, .int .u64 (cz : Int)] := by
                    unfold mapM Mv.cells
                    simp only
                    rw [HCZ.out]
                  rw [e0, mvs_snoc, e]
                  have h9 := hS10
                  first | exact h9 | (rw [← List.map_take] at h9; exact h9)
                have HV10 : Hid (w10.ownsRow W3.heap.size 53 4 (.slice a7 jv c7) jv (mvs ((ms.take j1).flatMap dup))) := by
                  have e0 : (ms.take j1).flatMap dup = (ms.take j).flatMap dup ++ [⟨my, mn, mt, mz⟩, ⟨my, mn, mt, mz⟩] := by
                    rw [← hj1, HTJ.out, flatMap_dup_snoc]
                  rw [e0, mvs_two]
                  exact hV10
                have HB10 := Lib.hid hB10
                have HD10 := Lib.hid hD10
                have hbq' := HBQ.out
                clear hS10 g10 hR9 w0 w1 w2 w3 y3 yf x7 hV10 hB10 hD10 hor10 hor10' hs9
                go_wp2
                subst hbq'
                have hjv2 : jv = 2 * j1 := by have := HJJ.out; omega
                go_roundw
                case rel => first | exact ⟨j1, jv, rfl, hjv2, by omega, by omega, HR10, HV10, HD10, HB10⟩ | ((repeat apply Exists.intro); exact ⟨⟨j1, jv, rfl, hjv2, by omega, by omega, HR10, HV10, HD10, HB10⟩, rfl⟩)
                case measure => simp [intOf]; omega
              · have hstop : j = ml ∨ (j < ml ∧ j = 300) := by
                  by_cases h : j < ml
                  · exact .inr ⟨h, by omega⟩
                  · exact .inl (by omega)
                rcases hstop with hje | ⟨hjl, hj3e⟩
                · have hjm' : decide ((j : Int) < (ml : Int)) = false := decide_eq_false (by omega)
                  have hml3 : decide ((300 : Int) < (ml : Int)) = false := decide_eq_false (by omega)
                  subst hje
                  have hmt : ms.take j = ms := List.take_of_length_le (by rw [HML.out]; omega)
                  have hO4 := HO.out.below HBx.out
                  have hU4 := HU.out.below HBx.out
                  have hM4 := HM.out.belowAll HBx.out
                  have hT4 := HTW.out.belowAll HBx.out
                  have hr4 := own_mono HR.out hbmw
                  have hv4 := own_mono HV.out hbmw
                  rw [hmt] at hr4 hv4
                  have hB4 := HBr.out.trans (HBx.out.mono hbmw)
                  have hal5 : Below W4.heap.size W4 (W4.alloc (.cells #[.slice ar j cr] 48)) := (Below.refl _ _).alloc (Nat.le_refl _) _
                  have hB5 := hB4.trans (hal5.mono (Nat.le_trans hbmw HBx.out.size))
                  have hr5 := hr4.alloc (.cells #[.slice ar j cr] 48)
                  have hv5 := hv4.alloc (.cells #[.slice ar j cr] 48)
                  obtain ⟨usx, k1, k2⟩ := hO4.below hal5
                  have hU5 := hU4.below hal5
                  have hM5 := hM4.alloc (.cells #[.slice ar j cr] 48)
                  have hT5 := hT4.alloc (.cells #[.slice ar j cr] 48)
                  have htw : ∀ x, (Value.slice atl i ctl).ownBlock = some x → x ≠ W4.heap.size + 1 := fun x e => by
                    obtain ⟨_, kt, _⟩ := hU4
                    have := (kt.lt x e).2
                    omega
                  have q2 := hM4.cell 2
                  simp only [List.getElem?_cons_zero, List.getElem?_cons_succ] at q2
                  rw [htl] at k1
                  have HK2 := Lib.hid k2
                  have HM5 := Lib.hid hM5
                  have HT5 := Lib.hid hT5
                  have HU5 := Lib.hid hU5
                  have HB5 := Lib.hid hB5
                  have HR5 := Lib.hid hr5
                  have HV5 := Lib.hid hv5
                  have HTN := Lib.hid htw
                  obtain ⟨i0, hi0, hz0, hz1, hz2⟩ := info_parts Tryd.info48
                  clear hO4 hU4 hM4 hT4 hr4 hv4 hal5 hr5 hv5 k2 hM5 hT5 hU5 hB4 hB5 htw hG4 hmt
                  go_wp2_with (at_builtin; refine wpList_append_own_at _ rfl (.tmp 103) (.tmp 105) _ rfl bm 48 i0 _ 1 24 Tryd.underlying23 hi0 hz0 hz1 hz2 rfl (by omega) (.slice asl i csl) i usx rfl k1 ⟨W4.heap.size, 0, none⟩ 1 1 [.slice ar j cr] rfl rfl ?r1 ?r2 ?r3 ?r4 ?r5 ?_)
                  case r1 => exact cells_of_new _ _ rfl [.slice ar j cr] 48
                  case r2 => simp [Value.oneCell']
                  case r3 => unfold maxLen; omega
                  case r4 => omega
                  case r5 => have := HB5.out.size; omega
                  intro v' w9 hS9 g9 _ hor9
                  have hwf : ∀ m ∈ ms.map (mapM (setb k)), m.wf := fun m hm => by
                    obtain ⟨m0, hm0, rfl⟩ := List.mem_map.1 hm
                    obtain ⟨v1, v2, v3, v4⟩ := HUS.out.2 m0 hm0
                    refine ⟨v1, v2, v3, ?_⟩
                    show setb k m0.sets < 18446744073709551616
                    exact setb_wf v4 (by omega)
                  have hlen : (ms.map (mapM (setb k))).length = j := by rw [List.length_map, HML.out]
                  have hO9 : OwnG bm w9 v' (STS.take i ++ [ms.map (mapM (setb k))]) := OwnG.push (us := usx) (by rw [htl]; exact k1) HK2.out (by rw [hlen]; exact HR5.out) hwf g9 (by rw [htl]; exact hS9)
                  rw [← HTK.out] at hO9
                  have hM9 := own_kept k1 g9 HM5.out (by decide)
                  have hT9 := own_kept k1 g9 HT5.out (by decide)
                  have hU9 := HU5.out.kept k1 g9 (dis_sym HD.out)
                  have hv9 := HV5.out.kept g9 (own_pair HV5.out k1 (by decide))
                  have hB9 := HB5.out.grown g9 (by have := HB5.out.size; omega) (fun q e => (k1.lt q e).1)
                  have hor9' : v'.ownBlock = (Value.slice asl i csl).ownBlock ∨ v'.ownBlock = some (W4.heap.size + 1) := by
                    rcases hor9 with h | h
                    · exact .inl h
                    · exact .inr (by simpa using h)
                  have hD9 := dis_sym (dis_new (dis_sym HD.out) hor9' HTN.out)
                  obtain ⟨i1, hi1⟩ : ∃ i1, i + 1 = i1 := ⟨_, rfl⟩
                  rw [hi1] at hS9 hO9 hwi3
                  obtain ⟨a9, c9, rfl, hc9, hm9⟩ := owns_form hS9
                  have t2 := hM9.cell 2
                  have t2f := hM9.free 2
                  simp only [List.getElem?_cons_zero, List.getElem?_cons_succ] at t2
                  have hM10 := hM9.put 2 (.slice a9 i1 c9)
                  have hT10 := hT9.far (p := ⟨bm, 2, none⟩) (by show bt ≠ bm; omega) (.slice a9 i1 c9)
                  have hO10 := hO9.put (i := 2) (u := .slice a9 i1 c9) hM9 (by decide) (by decide)
                  have hU10 := hU9.put (i := 2) (u := .slice a9 i1 c9) hM9 (by decide) (by decide)
                  have hv10 := own_put (i := 2) (u := .slice a9 i1 c9) hv9 hM9 (by decide)
                  have hB10 := hB9.setCell (p := ⟨bm, 2, none⟩) (Nat.le_refl _) (.slice a9 i1 c9)
                  have hal11 : Below (w9.setCell ⟨bm, 2, none⟩ (.slice a9 i1 c9)).heap.size (w9.setCell ⟨bm, 2, none⟩ (.slice a9 i1 c9)) ((w9.setCell ⟨bm, 2, none⟩ (.slice a9 i1 c9)).alloc (.cells #[.slice av jj cv] 48)) := (Below.refl _ _).alloc (Nat.le_refl _) _
                  obtain ⟨uty, l1, l2⟩ := hU10.below hal11
                  rw [htl2] at l1
                  have y2 := hT10.cell 2
                  simp only [List.getElem?_cons_zero, List.getElem?_cons_succ] at y2
                  have hon : ∀ x, (Value.slice a9 i1 c9).ownBlock = some x → x ≠ w9.heap.size + 1 := fun x e => by
                    have := (hS9.lt x e).2
                    omega
                  have HO11 := Lib.hid (hO10.below hal11)
                  have HM11 := Lib.hid (hM10.alloc (.cells #[.slice av jj cv] 48))
                  have HT11 := Lib.hid (hT10.alloc (.cells #[.slice av jj cv] 48))
                  have HV11 := Lib.hid (hv10.alloc (.cells #[.slice av jj cv] 48))
                  have HB11 := Lib.hid (hB10.trans (hal11.mono (by have := hB10.size; omega)))
                  have HL2 := Lib.hid l2
                  have HD9 := Lib.hid hD9
                  have HON := Lib.hid hon
                  clear hS9 hO9 hM9 hT9 hU9 hv9 hB9 hD9 hor9 hor9' g9 k1 hwf hlen q2 hM10 hT10 hO10 hU10 hv10 hB10 hal11 l2 hon
                  go_wp2_with (at_builtin; refine wpList_append_own_at _ rfl (.tmp 109) (.tmp 111) _ rfl bm 48 i0 _ 1 24 Tryd.underlying23 hi0 hz0 hz1 hz2 rfl (by omega) (.slice atl i ctl) i uty rfl l1 ⟨w9.heap.size, 0, none⟩ 1 1 [.slice av jj cv] rfl rfl ?s1 ?s2 ?s3 ?s4 ?s5 ?_)
                  case s1 => exact cells_of_new _ _ (by simp) [.slice av jj cv] 48
                  case s2 => simp [Value.oneCell']
                  case s3 => unfold maxLen; omega
                  case s4 => omega
                  case s5 => have := HB11.out.size; omega
                  intro v2' w12 hS12 g12 _ hor12
                  have hwf : ∀ m ∈ ms.flatMap dup, m.wf := fun m hm => HUS.out.2 m (mem_dup.1 hm)
                  have hlen : (ms.flatMap dup).length = jj := by rw [dup_len, HML.out]; exact HJJ.out.symm
                  have hU12 : OwnG bm w12 v2' (TTS.take i ++ [ms.flatMap dup]) := OwnG.push (us := uty) (by rw [htl2]; exact l1) HL2.out (by rw [hlen]; exact HV11.out) hwf g12 (by rw [htl2, hi1]; exact hS12)
                  rw [← HTK2.out] at hU12
                  have hM12 := own_kept l1 g12 HM11.out (by decide)
                  have hT12 := own_kept l1 g12 HT11.out (by decide)
                  have hO12 := HO11.out.kept l1 g12 HD9.out
                  have hB12 := HB11.out.grown g12 (by have := HB11.out.size; omega) (fun q e => (l1.lt q e).1)
                  have hor12' : v2'.ownBlock = (Value.slice atl i ctl).ownBlock ∨ v2'.ownBlock = some (w9.heap.size + 1) := by
                    rcases hor12 with h | h
                    · exact .inl h
                    · exact .inr (by simpa using h)
                  have hD12 := dis_new HD9.out hor12' HON.out
                  rw [hi1] at hU12
                  obtain ⟨a12, c12, rfl, hc12, hm12⟩ := owns_form hS12
                  have u2 := hT12.cell 2
                  have u2f := hT12.free 2
                  simp only [List.getElem?_cons_zero, List.getElem?_cons_succ] at u2
                  have HT13 := Lib.hid (hT12.put 2 (.slice a12 i1 c12))
                  have HM13 := Lib.hid (hM12.far (p := ⟨bt, 2, none⟩) (by show bm ≠ bt; omega) (.slice a12 i1 c12))
                  have HO13 := Lib.hid (hO12.put (i := 2) (u := .slice a12 i1 c12) hT12 (by decide) (by decide))
                  have HU13 := Lib.hid (hU12.put (i := 2) (u := .slice a12 i1 c12) hT12 (by decide) (by decide))
                  have HB13 := Lib.hid (hB12.setCell (p := ⟨bt, 2, none⟩) (by show bm ≤ bt; omega) (.slice a12 i1 c12))
                  have HD13 := Lib.hid hD12
                  have hi1n : i1 ≤ n := by omega
                  have hii : i < i1 := by omega
                  clear hS12 hU12 hM12 hT12 hO12 hB12 hor12 hor12' hD12 g12 l1 hwf hlen y2 t2 t2f hi1
                  go_wp2
                  go_roundw
                  case rel => first | exact ⟨i1, _, _, rfl, hi1n, HM13, HT13, HO13, HU13, HD13, HB13⟩ | ((repeat apply Exists.intro); exact ⟨⟨i1, _, _, rfl, hi1n, HM13, HT13, HO13, HU13, HD13, HB13⟩, rfl⟩)
                  case measure => simp [intOf]; omega
                · have hjm' : (j : Int) < (ml : Int) := by omega
                  have hj3' : decide ((j : Int) < 300) = false := decide_eq_false (by omega)
                  have hml3 : decide ((300 : Int) < (ml : Int)) = true := decide_eq_true (by omega)
                  have HBk : Hid (Below w.heap.size w W4) := HB3.out.trans (HBx.out.mono HB3.out.size)
                  go_wp2_with (go_at_call 12; refine (knownFn _).mono ?_; rintro e wc ⟨rfl, hb'⟩; have HBz := Lib.hid (HBk.out.trans (hb'.mono HBk.out.size)))
                  go_ret
                  exact ⟨rfl, HBz.out⟩
          · have hin2 : decide ((i : Int) < (n : Int)) = false := decide_eq_false (by omega)
            have hte : STS.take i = STS := List.take_of_length_le (by rw [HSTL.out]; omega)
            have hte2 : TTS.take i = TTS := List.take_of_length_le (by rw [HTTL.out]; omega)
            have hS0 : k ≤ 60 := by omega
            have hmore : GenAt W3.heap.size W3 (.agg #[.int .i64 (k1 : Int), .slice a1 il cap1, .slice asl i csl]) (mapG (setb k) ((k + 1 : Nat) : Int) g) := by
              refine ⟨.slice a1 il cap1, .slice asl i csl, by rw [← HK1.out]; rfl, ⟨by show -9223372036854775808 ≤ ((k + 1 : Nat) : Int); omega, by show ((k + 1 : Nat) : Int) ≤ 9223372036854775807; omega⟩, (HI.out.below HB3.out).mono HB3.out.size, ?_⟩
              have := HO.out.read
              rw [hte, ← HSTS.out] at this
              exact this
            have htwice : GenAt W3.heap.size W3 (.agg #[.int .i64 (k : Int), .slice a1 il cap1, .slice atl i ctl]) (twiceG g) := by
              have hs : (twiceG g).sets = (k : Int) := HSE.out
              refine ⟨.slice a1 il cap1, .slice atl i ctl, by rw [hs], by rw [hs]; omega, (HI.out.below HB3.out).mono HB3.out.size, ?_⟩
              have := HU.out.read
              rw [hte2, ← HTTS.out] at this
              exact this
            have hgs : ((mapG (setb k) ((k + 1 : Nat) : Int) g).states.map List.length).sum ≤ 4000000 := by rw [sum_mapG]; exact hsum
            have hgs2 : ((twiceG g).states.map List.length).sum ≤ 4000000 := by rw [sum_twice]; have := genOk_sum HOK.out; omega
            have hacm : accCode (mapG (setb k) ((k + 1 : Nat) : Int) g) l = 0 := by unfold accCode; rw [if_pos (genOk_more HOK.out HSE.out (by omega))]; exact hlc
            have HAM := Lib.hid (genAccepts (mapG (setb k) ((k + 1 : Nat) : Int) g) l _ _ W3 hmore (HL.out.step HB3.out) hgs hb2)
            rw [hacm] at HAM
            have q0 := HM.out.cell 0
            have q1 := HM.out.cell 1
            have q2 := HM.out.cell 2
            simp only [List.getElem?_cons_zero, List.getElem?_cons_succ] at q0 q1 q2
            have HEQM : Hid (accP (mapG (setb k) ((k + 1 : Nat) : Int) g) l ↔ accP g l) := accP_more HOK.out HSE.out
            have HTW2 := Lib.hid htwice
            obtain ⟨KT, hKT⟩ : ∃ KT, accCode (twiceG g) l = KT := ⟨_, rfl⟩
            have hKT2 : KT = 0 ∨ KT = 120 := by
              rw [← hKT]; unfold accCode; split
              · exact .inl hlc
              · exact .inr rfl
            clear hte hte2 hmore htwice hgs hacm
            rcases hKT2 with h0 | h0
            · subst h0
              go_wp2_with (first
                | (go_at_call 14; refine (genAccepts (twiceG g) l _ _ _ (HTW2.out.step Hb5.out) (HL.out.step HB5.out) hgs2 hb2).mono ?_; rintro e w6 ⟨b3, rfl, hp3, hb'⟩; rw [hKT]; rw [hKT] at hp3; obtain rfl : b1 = b3 := (Bool.eq_iff_iff.2 (hp3.trans ⟨fun h => HIS.out.2 (accP_twice.1 h.2), fun h => ⟨rfl, accP_twice.2 (HIS.out.1 h)⟩⟩)).symm; have HB6 := Lib.hid (HB5.out.trans (hb'.mono HB5.out.size)); clear hb')
                | (go_at_call 14; refine (HAM.out).mono ?_; rintro e w5 ⟨b2, rfl, hp2, hb'⟩; obtain rfl : b1 = b2 := (Bool.eq_iff_iff.2 (hp2.trans ⟨fun h => HIS.out.2 (HEQM.out.1 h.2), fun h => ⟨rfl, HEQM.out.2 (HIS.out.1 h)⟩⟩)).symm; have Hb5 := Lib.hid hb'; have HB5 := Lib.hid (HB3.out.trans (hb'.mono HB3.out.size)); have t5 := HTW.out.belowAll hb'; have r5 := HL3.out.belowAll hb'; have u0 := t5.cell 0; have u1 := t5.cell 1; have u2 := t5.cell 2; have u3 := r5.cell 0; have u4 := r5.cell 1; simp only [List.getElem?_cons_zero, List.getElem?_cons_succ] at u0 u1 u2 u3 u4; clear hb' t5 r5)
                | (go_at_call 12; refine (knownFn _).mono ?_; rintro e wc ⟨rfl, hb'⟩; have HBz := Lib.hid (HB6.out.trans (hb'.mono HB6.out.size)); clear hb'))
              go_ret
              exact ⟨rfl, HBz.out⟩
            · subst h0
              go_wp2_with (first
                | (go_at_call 14; refine (genAccepts (twiceG g) l _ _ _ (HTW2.out.step Hb5.out) (HL.out.step HB5.out) hgs2 hb2).mono ?_; rintro e w6 ⟨b3, rfl, hp3, hb'⟩; rw [hKT]; have HB6 := Lib.hid (HB5.out.trans (hb'.mono HB5.out.size)); clear hb')
                | (go_at_call 14; refine (HAM.out).mono ?_; rintro e w5 ⟨b2, rfl, hp2, hb'⟩; have Hb5 := Lib.hid hb'; have HB5 := Lib.hid (HB3.out.trans (hb'.mono HB3.out.size)); have t5 := HTW.out.belowAll hb'; have r5 := HL3.out.belowAll hb'; have u0 := t5.cell 0; have u1 := t5.cell 1; have u2 := t5.cell 2; have u3 := r5.cell 0; have u4 := r5.cell 1; simp only [List.getElem?_cons_zero, List.getElem?_cons_succ] at u0 u1 u2 u3 u4; clear hb' t5 r5)
                | (go_at_call 12; refine (knownFn _).mono ?_; rintro e wc ⟨rfl, hb'⟩; have HBz := Lib.hid (HB6.out.trans (hb'.mono HB6.out.size)); clear hb'))
              go_ret
              exact ⟨rfl, HBz.out⟩
      · have hs2 : decide ((300 : Int) < (n : Int)) = true := decide_eq_true (by omega)
        go_enter Tryd.func6, Tryd.ntmps6
        go_wp2_with (first
      | (go_at_call 12; refine (knownFn _).mono ?_; rintro e wc ⟨rfl, hb'⟩; have HGc := Lib.hid (HGc.out.belowAll hb'); have HLc := Lib.hid (HLc.out.belowAll hb'); have HBc := Lib.hid (HBc.out.trans (hb'.mono HBc.out.size)); have d0 := HGc.out.cell 0; have d1 := HGc.out.cell 1; have d2 := HGc.out.cell 2; have d3 := HLc.out.cell 0; have d4 := HLc.out.cell 1; simp only [List.getElem?_cons_zero, List.getElem?_cons_succ] at d0 d1 d2 d3 d4; clear hb')
      | (go_at_call 14; refine (genAccepts g l _ _ _ (HG.out.step HBc.out) (HL.out.step HBc.out) hsum hb2).mono ?_; rintro e wc ⟨b1, rfl, hp1, hb'⟩; rw [hK]; rw [hK] at hp1; have HGc := Lib.hid (HGc.out.belowAll hb'); have HLc := Lib.hid (HLc.out.belowAll hb'); have HBc := Lib.hid (HBc.out.trans (hb'.mono HBc.out.size)); have d0 := HGc.out.cell 0; have d1 := HGc.out.cell 1; have d2 := HGc.out.cell 2; have d3 := HLc.out.cell 0; have d4 := HLc.out.cell 1; simp only [List.getElem?_cons_zero, List.getElem?_cons_succ] at d0 d1 d2 d3 d4; clear hb'))
        go_ret
        exact ⟨rfl, HBc.out⟩
    · have hs1 : decide ((60 : Int) ≤ S) = true := decide_eq_true (by omega)
      go_enter Tryd.func6, Tryd.ntmps6
      go_wp2_with (first
      | (go_at_call 12; refine (knownFn _).mono ?_; rintro e wc ⟨rfl, hb'⟩; have HGc := Lib.hid (HGc.out.belowAll hb'); have HLc := Lib.hid (HLc.out.belowAll hb'); have HBc := Lib.hid (HBc.out.trans (hb'.mono HBc.out.size)); have d0 := HGc.out.cell 0; have d1 := HGc.out.cell 1; have d2 := HGc.out.cell 2; have d3 := HLc.out.cell 0; have d4 := HLc.out.cell 1; simp only [List.getElem?_cons_zero, List.getElem?_cons_succ] at d0 d1 d2 d3 d4; clear hb')
      | (go_at_call 14; refine (genAccepts g l _ _ _ (HG.out.step HBc.out) (HL.out.step HBc.out) hsum hb2).mono ?_; rintro e wc ⟨b1, rfl, hp1, hb'⟩; rw [hK]; rw [hK] at hp1; have HGc := Lib.hid (HGc.out.belowAll hb'); have HLc := Lib.hid (HLc.out.belowAll hb'); have HBc := Lib.hid (HBc.out.trans (hb'.mono HBc.out.size)); have d0 := HGc.out.cell 0; have d1 := HGc.out.cell 1; have d2 := HGc.out.cell 2; have d3 := HLc.out.cell 0; have d4 := HLc.out.cell 1; simp only [List.getElem?_cons_zero, List.getElem?_cons_succ] at d0 d1 d2 d3 d4; clear hb'))
      go_ret
      exact ⟨rfl, HBc.out⟩
  · have f2 : ((K : Int) != 0) = true := by simp; exact hK0
    have f3 : ¬ ((K : Int) = 0) := by omega
    go_enter Tryd.func6, Tryd.ntmps6
    go_wp2_with (first
      | (go_at_call 12; refine (knownFn _).mono ?_; rintro e wc ⟨rfl, hb'⟩; have HGc := Lib.hid (HGc.out.belowAll hb'); have HLc := Lib.hid (HLc.out.belowAll hb'); have HBc := Lib.hid (HBc.out.trans (hb'.mono HBc.out.size)); have d0 := HGc.out.cell 0; have d1 := HGc.out.cell 1; have d2 := HGc.out.cell 2; have d3 := HLc.out.cell 0; have d4 := HLc.out.cell 1; simp only [List.getElem?_cons_zero, List.getElem?_cons_succ] at d0 d1 d2 d3 d4; clear hb')
      | (go_at_call 14; refine (genAccepts g l _ _ _ (HG.out.step HBc.out) (HL.out.step HBc.out) hsum hb2).mono ?_; rintro e wc ⟨b1, rfl, hp1, hb'⟩; rw [hK]; rw [hK] at hp1; have HGc := Lib.hid (HGc.out.belowAll hb'); have HLc := Lib.hid (HLc.out.belowAll hb'); have HBc := Lib.hid (HBc.out.trans (hb'.mono HBc.out.size)); have d0 := HGc.out.cell 0; have d1 := HGc.out.cell 1; have d2 := HGc.out.cell 2; have d3 := HLc.out.cell 0; have d4 := HLc.out.cell 1; simp only [List.getElem?_cons_zero, List.getElem?_cons_succ] at d0 d1 d2 d3 d4; clear hb'))
    go_ret
    exact ⟨rfl, HBc.out⟩
end Go.Proofs.YtelanndleinabaaDoor
