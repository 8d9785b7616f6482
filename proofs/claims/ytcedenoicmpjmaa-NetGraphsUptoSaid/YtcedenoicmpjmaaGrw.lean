/- The walk of NetGraphs. -/
import Derived.Test.YtcedenoicmpjmaaMvl
import Derived.Test.YtcedenoicmpjmaaOwn
import Derived.Test.YtcedenoicmpjmaaRlk
import Derived.Test.YtcedenoicmpjmaaRnx
import Derived.Test.YtcedenoicmpjmaaRchk
import Derived.Test.YtcedenoicmpjmaaKnown
namespace Go.Proofs.Ytcedenoicmpjmaa
open Go.RowKit Go.Maps
set_option linter.unusedVariables false
set_option linter.unusedSimpArgs false

theorem beg0 : (⟨(encs [0]).toArray⟩ : ByteArray) = ⟨#[0]⟩ := by
  unfold encs
  simp only [List.flatMap_cons, List.flatMap_nil, List.append_nil]
  rw [enc_lt (by omega)]
  rfl
set_option maxHeartbeats 8000000 in
set_option maxRecDepth 100000 in
theorem lawGraphs {P : Nat → Prop} {w : World} {N : PNet} {v : Value} {s : ByteArray} {c : Int} (hv : NetV P w v N) (hs : Small N) (hsz : s.size ≤ 1048576) (hc : -9223372036854775808 ≤ c ∧ c ≤ 9223372036854775807) : Calls Try.prog 3 #[.agg #[v], .string s, .int .i64 c] w (Yes w) := by
  have hv := hv.mono (Q := fun k => k < w.heap.size) (fun k _ hk => hk)
  obtain ⟨f, hr, hg⟩ := hv
  obtain ⟨a0, k0, rfl, _, _, _⟩ := hr.form
  obtain ⟨w0, hw0⟩ : ∃ W, W = w.alloc (.cells #[.slice a0 N.length k0] 24) := ⟨_, rfl⟩
  have hb0 : Below w.heap.size w w0 := by rw [hw0]; exact (Below.refl _ _).alloc (Nat.le_refl _) _
  have HB0 := Lib.hid hb0
  have HV0 := Lib.hid ((show NetV (fun k => k < w.heap.size) w (.slice a0 N.length k0) N from ⟨f, hr, hg⟩).up (Keep.below hb0))
  have H1 : Hid (Holds w0 w.heap.size 24 [.slice a0 N.length k0]) := by rw [hw0]; exact Holds.new w 24 #[.slice a0 N.length k0]
  have HCC := Lib.hid hc
  clear hr hg hb0 hc
  go_enter Try.func3, Try.ntmps3
  go_wp2_with (fail)
  rw [← hw0]
  clear hw0
  obtain ⟨b0, hb0e⟩ : ∃ b, w.heap.size = b := ⟨_, rfl⟩
  have HB0E := Lib.hid hb0e
  rw [hb0e] at H1 ⊢
  clear hb0e
  refine (ownFn HV0.out hs).mono ?_
  rintro e w1 ⟨hb1, vx, rfl, hvx, hsn⟩
  obtain ⟨fx, hrx, hgx⟩ := hvx
  obtain ⟨ax, kx, rfl, _, _, _⟩ := hrx.form
  obtain ⟨w2, hw2⟩ : ∃ W, W = w1.alloc (.cells #[.slice ax N.length kx] 24) := ⟨_, rfl⟩
  have hb2 : Below w1.heap.size w1 w2 := by rw [hw2]; exact (Below.refl _ _).alloc (Nat.le_refl _) _
  have hz2 : w1.heap.size < w2.heap.size := by rw [hw2]; simp
  have HX2 : Hid (NetV (fun k => w0.heap.size ≤ k ∧ k < w1.heap.size) w2 (.slice ax N.length kx) N) := (show NetV (fun k => w0.heap.size ≤ k ∧ k < w1.heap.size) w1 (.slice ax N.length kx) N from NetV.mono (fun k hk hl => ⟨hk, hl⟩) ⟨fx, hrx, hgx⟩).up (Keep.below hb2)
  have HS2 : Hid (0 < N.length → SN (fun k => w0.heap.size ≤ k ∧ k < w1.heap.size) w2 (.slice ax N.length kx)) := fun hn => ((hsn hn).mono (R' := fun k => w0.heap.size ≤ k ∧ k < w1.heap.size) (fun k hk hl => ⟨hk, hl⟩)).up (Keep.below hb2)
  have HB2 : Hid (Below b0 w w2) := by have h3 := HB0.out.trans ((hb1.trans (hb2.mono hb1.size)).mono HB0.out.size); rw [HB0E.out] at h3; exact h3
  have HV2 := Lib.hid (HV0.out.up (Keep.below (hb1.trans (hb2.mono hb1.size))))
  have H12 := Lib.hid (H1.out.belowAll (hb1.trans (hb2.mono hb1.size)))
  have H22 : Hid (Holds w2 w1.heap.size 24 [.slice ax N.length kx]) := by rw [hw2]; exact Holds.new w1 24 #[.slice ax N.length kx]
  have HSZ : Hid (b0 < w0.heap.size ∧ w0.heap.size ≤ w1.heap.size ∧ w1.heap.size < w2.heap.size) := ⟨H1.out.lt, hb1.size, hz2⟩
  go_wp2_with (fail)
  rw [← hw2]
  clear hw2 hrx hgx hb1 hb2 hz2 hsn HV0 H1 HB0
  obtain ⟨b1, hb1e⟩ : ∃ b, w1.heap.size = b := ⟨_, rfl⟩
  obtain ⟨lo, hloe⟩ : ∃ b, w0.heap.size = b := ⟨_, rfl⟩
  rw [hb1e, hloe] at HX2 HS2 HSZ
  rw [hb1e] at H22 ⊢
  clear hb1e hloe
  refine (ofFn HX2.out hs).mono ?_
  rintro e w3 ⟨hb3, h3⟩
  have HB3 := Lib.hid hb3
  have H13 := Lib.hid (H12.out.belowAll hb3)
  have H23 := Lib.hid (H22.out.belowAll hb3)
  have g13 := H13.out.cell 0
  simp only [List.getElem?_cons_zero] at g13
  by_cases hck : chk N = true
  · rw [if_pos hck] at h3
    obtain ⟨vs, rfl, hvs⟩ := h3
    obtain ⟨fs, hrs, hgs⟩ := hvs
    obtain ⟨av, ks, rfl, _, _, _⟩ := hrs.form
    have HVS : Hid (NetV (From w2.heap.size) w3 (.slice av N.length ks) N) := ⟨fs, hrs, hgs⟩
    have HCK := Lib.hid hck
    have hee : errC (chk N) = .int .i64 0 := by rw [hck]; rfl
    have HEE := Lib.hid hee
    clear hb3 hrs hgs hck hee H12 H22
    go_wp2_with (fail)
    refine (refCheckFn (HV2.out.up (Keep.below HB3.out)) hs).mono ?_
    rintro e w4 ⟨rfl, hb4⟩
    rw [HEE.out]
    have HB4 : Hid (Below w2.heap.size w2 w4) := HB3.out.trans (hb4.mono HB3.out.size)
    have H24 := Lib.hid (H23.out.belowAll hb4)
    have H14 := Lib.hid (H13.out.belowAll hb4)
    have HVS4 := Lib.hid (HVS.out.up (Keep.below hb4))
    have g24 := H24.out.cell 0
    simp only [List.getElem?_cons_zero] at g24
    clear g13 hb4 HVS H13 H23
    go_wp2_with (fail)
    refine (checkFn (HX2.out.up (Keep.below HB4.out)) hs).mono ?_
    rintro e w5 ⟨rfl, hb5⟩
    rw [HEE.out]
    have HB5 : Hid (Below w2.heap.size w2 w5) := HB4.out.trans (hb5.mono HB4.out.size)
    have H15 := Lib.hid (H14.out.belowAll hb5)
    have H25 := Lib.hid (H24.out.belowAll hb5)
    have HVS5 := Lib.hid (HVS4.out.up (Keep.below hb5))
    have g25 := H25.out.cell 0
    simp only [List.getElem?_cons_zero] at g25
    have hpos : 0 < N.length := by
      by_cases h : N.length < 1
      · have h4 := chk_size (.inl h); rw [HCK.out] at h4; cases h4
      · omega
    have HSN := Lib.hid ((HS2.out hpos).up (Keep.below HB5.out))
    clear g24 hb5 HVS4 H14 H24 hpos
    go_wp2_with (fail)
    refine (spoilFn HSN.out).mono ?_
    rintro e w6 ⟨⟨ve, rfl⟩, hf6⟩
    have HTO : Hid (∀ x ∈ N, ∀ a ∈ x.arcs, 0 ≤ a.to ∧ a.to < 9223372036854775808) := fun x hx a ha => by
      have h3 := HCK.out
      unfold chk at h3
      simp only [Bool.and_eq_true, decide_eq_true_eq] at h3
      have h4 := chkArc_to (List.all_eq_true.1 (List.all_eq_true.1 h3.1.2 x hx) a ha)
      omega
    have HNL : Hid (N.length ≤ 20000) := by
      have h3 := HCK.out
      unfold chk at h3
      simp only [Bool.and_eq_true, decide_eq_true_eq] at h3
      show _ ≤ _
      omega
    have HV6 : Hid (NetV (fun k => k < w.heap.size) w6 (.slice a0 N.length k0) N) := HV2.out.up (Keep.trans (Keep.below HB5.out) (fun k hk hl => hf6.block k hl (by have := HSZ.out; have := HB0E.out; rintro ⟨h1, h2⟩; omega)) HB5.out.size)
    have HVS6 : Hid (NetV (From w2.heap.size) w6 (.slice av N.length ks) N) := HVS5.out.up (fun k hk hl => hf6.block k hl (by have := HSZ.out; have h3 : w2.heap.size ≤ k := hk; rintro ⟨h1, h2⟩; omega))
    have H16 : Hid (Holds w6 b0 24 [.slice a0 N.length k0]) := H15.out.of_eq (hf6.block b0 H15.out.lt (by have := HSZ.out; rintro ⟨h1, h2⟩; omega))
    have HB6 : Hid (Below b0 w w6) := (HB2.out.trans (HB5.out.mono (by have := HSZ.out; omega))).trans (hf6.to_below (by have := HSZ.out; have := HB5.out.size; omega) fun q hq => by have := HSZ.out; rintro ⟨h1, h2⟩; omega)
    have g16 := H16.out.cell 0
    simp only [List.getElem?_cons_zero] at g16
    have m1 := methBegin (.slice av N.length ks)
    have m2 := methLook (.slice av N.length ks)
    obtain ⟨x, hx⟩ : ∃ x, (nodeOf N s.data.toList).getD zeroN = x := ⟨_, rfl⟩
    have HX := Lib.hid hx
    have hC := Lib.hid (fun (w' : World) (hb : Below w6.heap.size w6 w') => (show Below w6.heap.size w6 w' ∧ w'.cell? ⟨b0, 0, none⟩ = some (.slice a0 N.length k0) from ⟨hb, (H16.out.belowAll hb).cell 0⟩))
    have hCt := Lib.hid (fun (wa wb : World) (hS : Below w6.heap.size w6 wa ∧ wa.cell? ⟨b0, 0, none⟩ = some (.slice a0 N.length k0)) (hb : Below wa.heap.size wa wb) => hC.out wb (hS.1.trans (hb.mono hS.1.size)))
    clear hf6 HSN HVS5 H15 H25 g25 hx
    go_wp2_with (fail)
    go_region_held3 (fun w' : World => Below w6.heap.size w6 w' ∧ w'.cell? ⟨b0, 0, none⟩ = some (.slice a0 N.length k0)) (first | exact hC.out _ (Below.refl _ _).drew | exact hSb.out | exact hSn.out | exact hSm.out | exact hSl.out | exact hSr.out) (first
      | (go_at_call 63; refine (beginFn _ _).mono ?_; rintro e wb ⟨rfl, hbb⟩; rw [beg0]; have hSb := Lib.hid (hCt.out _ _ (by assumption) hbb); clear hbb)
      | (go_at_call 14; refine (refNextFn (HV6.out.up (Keep.below (And.left (by assumption)))) hsz HNL.out hs HTO.out).mono ?_; rintro e wn ⟨hbn, vn, rfl, hvn⟩; have hSn := Lib.hid (hCt.out _ _ (by assumption) hbn); have HVN := Lib.hid hvn; clear hbn hvn)
      | (go_at_call 13; refine (movesLaw (HVS6.out.up (Keep.below (And.left (by assumption)))) hsz hs HTO.out HVN.out HCC.out).mono ?_; rintro e wm ⟨rfl, hbm⟩; have hSm := Lib.hid (hCt.out _ _ (by assumption) hbm); clear hbm)
      | (go_at_call 64; refine (lookFn (HVS6.out.up (Keep.below (And.left (by assumption)))) hsz).mono ?_; rintro e wl ⟨hbl, rfl⟩; rw [HX.out]; unfold sight; have hSl := Lib.hid (hCt.out _ _ (by assumption) hbl); clear hbl)
      | (go_at_call 15; refine (refLookFn (HV6.out.up (Keep.below (And.left (by assumption)))) hsz HNL.out).mono ?_; rintro e wr ⟨hbr, rfl⟩; rw [HX.out]; unfold sight; have hSr := Lib.hid (hCt.out _ _ (by assumption) hbr); clear hbr))
    clear g16 hC HX m1
    have hC := Lib.hid (fun (w' : World) (hb : Below w6.heap.size w6 w') => (show Below w6.heap.size w6 w' ∧ w'.cell? ⟨b0, 0, none⟩ = some (.slice a0 N.length k0) from ⟨hb, (H16.out.belowAll hb).cell 0⟩))
    have HSR : Hid (Below w6.heap.size w6 wr) := hSr.out.1
    clear hSr hSl hSm hSn hSb HVN
    go_wp2_with (fail)
    go_loopw [11] (fun x W => ∃ i : Nat, x = .int .i64 (i : Int) ∧ i ≤ N.length ∧ Hid (Below w6.heap.size w6 W)) (fun x _ => N.length - (intOf x).toNat)
    case atStart => exact ⟨0, rfl, Nat.zero_le _, HSR.out⟩
    case round =>
      obtain ⟨i, hx, hi, HBW⟩ := hrel
      subst hx
      have g1 := (H16.out.belowAll HBW.out).cell 0
      simp only [List.getElem?_cons_zero] at g1
      by_cases hin : i < N.length
      · have hi2 : (i : Int) < (N.length : Int) := by omega
        have hi0 : (0 : Int) ≤ (i : Int) := by omega
        have hwi : IntKind.i64.wrap (i : Int) = (i : Int) := by rw [IntKind.wrap_i64]; have := HNL.out; omega
        have hwi1 : IntKind.i64.wrap ((i : Int) + 1) = (i : Int) + 1 := by rw [IntKind.wrap_i64]; have := HNL.out; omega
        by_cases h30 : i < 30
        · have hi3 : (i : Int) < 30 := by omega
          obtain ⟨w7, hw7⟩ : ∃ W, W = wr.alloc (.cells #[.int .i64 (i : Int)] 3) := ⟨_, rfl⟩
          have hb7 : Below wr.heap.size wr w7 := by rw [hw7]; exact (Below.refl _ _).alloc (Nat.le_refl _) _
          have HB7 : Hid (Below w6.heap.size w6 w7) := HBW.out.trans (hb7.mono HBW.out.size)
          have HI7 : Hid (RowL (fun _ => True) w7 1 (.slice (some ⟨wr.heap.size, 0, none⟩) 1 1) 1 [.int .i64 (i : Int)]) := RowL.of_owns (owns_lit (base := 0) (t := 3) (by rw [hw7]; exact Holds.new wr 3 #[.int .i64 (i : Int)]) (Nat.zero_le _) rfl (by omega)) fun _ _ => trivial
          go_wp2_with (fail)
          rw [← hw7]
          clear hw7 hb7 g1
          refine (refBytesFn HI7.out (by have := HNL.out; omega)).mono ?_
          rintro e w8 ⟨rfl, hb8⟩
          have HB8 : Hid (Below w6.heap.size w6 w8) := HB7.out.trans (hb8.mono HB7.out.size)
          have g8 := (H16.out.belowAll HB8.out).cell 0
          simp only [List.getElem?_cons_zero] at g8
          obtain ⟨K, hK⟩ : ∃ K, keyS i = K := ⟨_, rfl⟩
          have HKZ : Hid (K.size ≤ 1048576) := by
            have := keyS_size (n := i) (by have := HNL.out; omega)
            rw [hK] at this
            show _ ≤ _
            omega
          rw [hK]
          obtain ⟨y, hy⟩ : ∃ y, (nodeOf N K.data.toList).getD zeroN = y := ⟨_, rfl⟩
          have HY := Lib.hid hy
          have HC0 := Lib.hid (hC.out _ HB8.out.drew)
          clear hb8 hK hy HI7
          go_wp2_with (fail)
          go_region_held3 (fun w' : World => Below w6.heap.size w6 w' ∧ w'.cell? ⟨b0, 0, none⟩ = some (.slice a0 N.length k0)) (first | exact HC0.out | exact hSb.out | exact hSn.out | exact hSm.out | exact hSl.out | exact hSr.out) (first
            | (go_at_call 14; refine (refNextFn (HV6.out.up (Keep.below (And.left (by assumption)))) HKZ.out HNL.out hs HTO.out).mono ?_; rintro e wn ⟨hbn, vn, rfl, hvn⟩; have hSn := Lib.hid (hCt.out _ _ (by assumption) hbn); have HVN := Lib.hid hvn; clear hbn hvn)
            | (go_at_call 13; refine (movesLaw (HVS6.out.up (Keep.below (And.left (by assumption)))) HKZ.out hs HTO.out HVN.out HCC.out).mono ?_; rintro e wm ⟨rfl, hbm⟩; have hSm := Lib.hid (hCt.out _ _ (by assumption) hbm); clear hbm)
            | (go_at_call 64; refine (lookFn (HVS6.out.up (Keep.below (And.left (by assumption)))) HKZ.out).mono ?_; rintro e wl ⟨hbl, rfl⟩; rw [HY.out]; unfold sight; have hSl := Lib.hid (hCt.out _ _ (by assumption) hbl); clear hbl)
            | (go_at_call 15; refine (refLookFn (HV6.out.up (Keep.below (And.left (by assumption)))) HKZ.out HNL.out).mono ?_; rintro e wq ⟨hbr, rfl⟩; rw [HY.out]; unfold sight; have hSr := Lib.hid (hCt.out _ _ (by assumption) hbr); clear hbr))
          have HBQ : Hid (Below w6.heap.size w6 wq) := hSr.out.1
          clear hSr hSl hSm hSn HVN HC0
          go_wp2
          go_roundw
          case rel => exact ⟨i + 1, by simp, by omega, HBQ.out⟩
          case measure => (simp [intOf]) <;> omega
        · have hi3 : ¬ (i : Int) < 30 := by omega
          go_wp2_with (fail)
          refine (knownFn _).mono ?_
          rintro e w9 ⟨rfl, hb9⟩
          have HB9 : Hid (Below w6.heap.size w6 w9) := HBW.out.trans (hb9.mono HBW.out.size)
          have HBF : Hid (Below w.heap.size w w9) := by
            rw [HB0E.out]
            exact HB6.out.trans (HB9.out.mono (by have := HB6.out.size; have := HB0E.out; omega))
          clear hb9
          go_wp2
          go_ret
          exact ⟨rfl, HBF.out⟩
      · have hi2 : ¬ (i : Int) < (N.length : Int) := by omega
        go_wp2_with (fail)
        refine (knownFn _).mono ?_
        rintro e w9 ⟨rfl, hb9⟩
        have HB9 : Hid (Below w6.heap.size w6 w9) := HBW.out.trans (hb9.mono HBW.out.size)
        have HBF : Hid (Below w.heap.size w w9) := by
          rw [HB0E.out]
          exact HB6.out.trans (HB9.out.mono (by have := HB6.out.size; have := HB0E.out; omega))
        clear hb9
        go_wp2
        go_ret
        exact ⟨rfl, HBF.out⟩
  · have hcf : chk N = false := by simpa using hck
    rw [hcf] at h3
    simp only [Bool.false_eq_true, if_false] at h3
    subst h3
    have hee : errC (chk N) = .int .i64 150 := by rw [hcf]; rfl
    have HEE := Lib.hid hee
    clear hb3 hck hcf hee H12 H22
    go_wp2_with (fail)
    refine (refCheckFn (HV2.out.up (Keep.below HB3.out)) hs).mono ?_
    rintro e w4 ⟨rfl, hb4⟩
    rw [HEE.out]
    have HB4 : Hid (Below w2.heap.size w2 w4) := HB3.out.trans (hb4.mono HB3.out.size)
    have H24 := Lib.hid (H23.out.belowAll hb4)
    have g24 := H24.out.cell 0
    simp only [List.getElem?_cons_zero] at g24
    clear g13 hb4 H13 H23
    go_wp2_with (fail)
    refine (checkFn (HX2.out.up (Keep.below HB4.out)) hs).mono ?_
    rintro e w5 ⟨rfl, hb5⟩
    rw [HEE.out]
    have HB5 : Hid (Below w2.heap.size w2 w5) := HB4.out.trans (hb5.mono HB4.out.size)
    clear g24 hb5 H24
    go_wp2_with (fail)
    refine (knownFn _).mono ?_
    rintro e w6 ⟨rfl, hb6⟩
    have HB6 : Hid (Below w2.heap.size w2 w6) := HB5.out.trans (hb6.mono HB5.out.size)
    have HBF : Hid (Below w.heap.size w w6) := by
      rw [HB0E.out]
      exact HB2.out.trans (HB6.out.mono (by have := HSZ.out; omega))
    clear hb6
    go_wp2
    go_ret
    exact ⟨rfl, HBF.out⟩
end Go.Proofs.Ytcedenoicmpjmaa
