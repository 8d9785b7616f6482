/- The walk of the document's Check (printed by mkrchk.py). -/
import Derived.Test.YtcedenoicmpjmaaChk
namespace Go.Proofs.Ytcedenoicmpjmaa
open Go.RowKit
set_option linter.unusedVariables false
set_option linter.unusedSimpArgs false

set_option maxHeartbeats 4000000 in
set_option maxRecDepth 100000 in
theorem refCheckFn {P : Nat → Prop} {w : World} {n : PNet} {v : Value} (h : NetV P w v n) (hs : Small n) : Calls Try.prog 9 #[.agg #[v]] w (ChkPost n w) := by
  obtain ⟨f, hr, hg⟩ := h
  obtain ⟨a, c, rfl, hc1, _, _⟩ := hr.form
  obtain ⟨M, hM⟩ : ∃ M, n.length = M := ⟨_, rfl⟩
  have hB0 : Below w.heap.size w (w.alloc (.cells #[.slice a M c] 24)) := (Below.refl _ _).alloc (Nat.le_refl _) _
  have H := Lib.hid (hr.up (Keep.below hB0))
  have G := Lib.hid (LsF.up (fun _ _ => oneNode.up (Keep.below hB0)) _ hg)
  have HN := Lib.hid hM
  have HS := Lib.hid hs
  have HX0 := Lib.hid (Holds.new w 24 #[.slice a M c])
  have HB0 := Lib.hid hB0
  have hm := hs.nodes
  rw [hM] at hc1 hm ⊢
  clear hr hg hM hs hB0
  obtain ⟨F0, hF0⟩ : ∃ F0, (decide (1 ≤ M) && decide (M ≤ 20000)) = F0 := ⟨_, rfl⟩
  have HF0 := Lib.hid hF0
  have hd : (decide ((1 : Int) ≤ (M : Int)) = F0 ∧ decide ((M : Int) ≤ 20000) = true) ∨ (decide ((1 : Int) ≤ (M : Int)) = true ∧ decide ((M : Int) ≤ 20000) = F0) := by
    rw [← hF0]
    by_cases h1 : M ≤ 20000
    · refine .inl ⟨?_, decide_eq_true (by omega)⟩
      have h2 : decide (M ≤ 20000) = true := decide_eq_true h1
      rw [h2, Bool.and_true]
      rw [Bool.eq_iff_iff]; simp; omega
    · refine .inr ⟨decide_eq_true (by omega), ?_⟩
      have h2 : decide (1 ≤ M) = true := decide_eq_true (by omega)
      rw [h2, Bool.true_and]
      rw [Bool.eq_iff_iff]; simp; omega
  clear hF0
  go_enter Try.func9, Try.ntmps9
  go_upto_region 2 with (fail)
  go_cut [4] (fun s4 wx => s4 = .bool F0 ∧ wx = w.alloc (.cells #[.slice a M c] 24))
  case first =>
    rcases hd with ⟨h1, h2⟩ | ⟨h1, h2⟩
    · cases F0
      · go_wp2
        go_meet
        case rel => exact ⟨rfl, rfl⟩
      · go_wp2
        go_meet
        case rel => exact ⟨rfl, rfl⟩
    · cases F0
      · go_wp2
        go_meet
        case rel => exact ⟨rfl, rfl⟩
      · go_wp2
        go_meet
        case rel => exact ⟨rfl, rfl⟩
  case rest =>
    obtain ⟨rfl, hwc⟩ := hcut
    rw [← hwc] at HX0 HB0 H G
    have e0 := HX0.out.cell 0
    simp only [List.getElem?_cons_zero] at e0
    clear hwc hd
    go_wp2
    clear e0
    go_loopw [4, 5, 6] (fun u y x wr => ∃ (F : Bool) (i t : Nat), u = .bool F ∧ x = .int .i64 (i : Int) ∧ y = .int .i64 (t : Int) ∧ i ≤ M ∧ Hid (F = true → F0 = true ∧ total (n.take i) = t ∧ t ≤ 262144 ∧ ∀ (j : Nat) (hj : j < n.length), j < i → n[j].arcs.all (chkArc n.length) = true) ∧ Hid (F = false → chk n = false) ∧ Hid (Below wc.heap.size wc wr)) (fun _ _ x _ => M - (intOf x).toNat)
    case atStart =>
      refine ⟨F0, 0, 0, rfl, rfl, rfl, Nat.zero_le _, fun h => ⟨h, rfl, by omega, fun j _ hj => by omega⟩, fun h => ?_, Below.refl _ _⟩
      have h0 := HF0.out
      rw [h] at h0
      refine chk_size ?_
      rw [HN.out]
      simp at h0
      omega
    case round =>
      obtain ⟨F, i, tt, hu, hx, hy, hi, HT, HE, HB⟩ := hrel
      subst hu hx hy
      by_cases hin : i < M ∧ F = true
      · obtain ⟨hin, rfl⟩ := hin
        have hi2i : (i : Int) < (M : Int) := by omega
        have hi0i : (0 : Int) ≤ (i : Int) := by omega
        have hwii : IntKind.i64.wrap (i : Int) = (i : Int) := by rw [IntKind.wrap_i64]; omega
        have hwji : IntKind.i64.wrap ((i : Int) + 1) = (i : Int) + 1 := by rw [IntKind.wrap_i64]; omega
        have hil : i < n.length := by rw [HN.out]; exact hin
        obtain ⟨hf0, htt, ht2, hall⟩ := HT.out rfl
        have e0 := (HX0.out.belowAll HB.out).cell 0
        simp only [List.getElem?_cons_zero] at e0
        obtain ⟨gb, ob, cb, c, he1, hG1, hr1⟩ := (H.out.up (Keep.below HB.out)).atN oneNode (LsF.up (fun _ _ => oneNode.up (Keep.below HB.out)) _ G.out) hil
        injection he1 with he1 _ he1'
        subst he1 he1'
        obtain ⟨x, hx⟩ : ∃ x, n[i] = x := ⟨_, rfl⟩
        rw [hx] at hG1
        obtain ⟨va, rfl, fa, ra, ga⟩ := hG1
        obtain ⟨aa, ac, rfl, hac, _, _⟩ := ra.form
        obtain ⟨K, hK⟩ : ∃ K, x.arcs.length = K := ⟨_, rfl⟩
        have e7 : wr.cell? ⟨gb, ob + i * 5, none⟩ = some (.slice aa x.arcs.length ac) := hr1 0 _ rfl
        have htk := total_take hil
        rw [hx, htt, hK] at htk
        have htl : tt + K ≤ 2000000 := by have := total_le (n := n) (k := i + 1); have := HS.out.arcs; omega
        have HT2 := Lib.hid htk
        have HAL := Lib.hid hall
        have hwt : IntKind.i64.wrap ((tt : Int) + (K : Int)) = (tt : Int) + (K : Int) := by rw [IntKind.wrap_i64]; omega
        have HRA := Lib.hid ra
        have HGA := Lib.hid ga
        have HK := Lib.hid hK
        have HXX := Lib.hid hx
        have HF1 := Lib.hid hf0
        rw [hK] at e7 hac
        have hkm : K ≤ 2000000 := by omega
        have hdn : (0 : Int) ≤ 1 := by omega
        clear ra ga hK hx htk htl HT HE hf0 htt ht2 hall hr1
        go_upto_region 10 with (fail)
        clear e0 e7 hwt
        obtain ⟨F1, hF1⟩ : ∃ F1, decide (((tt : Int) + (K : Int)) ≤ 262144) = F1 := ⟨_, rfl⟩
        have HF2 := Lib.hid hF1
        first | rw [hF1] | skip
        clear hF1
        go_wp2
        go_loopw [4, 8] (fun u z wx => ∃ (F2 : Bool) (k : Nat), u = .bool F2 ∧ z = .int .i64 (k : Int) ∧ k ≤ K ∧ Hid (F2 = true → F1 = true ∧ ∀ (j : Nat) (hj : j < x.arcs.length), j < k → chkArc n.length x.arcs[j] = true) ∧ Hid (F2 = false → chk n = false) ∧ Hid (Below wr.heap.size wr wx)) (fun _ z _ => K - (intOf z).toNat)
        case atStart =>
          refine ⟨F1, 0, rfl, rfl, Nat.zero_le _, fun h => ⟨h, fun j _ hj => by omega⟩, fun h => ?_, Below.refl _ _⟩
          have h0 := HF2.out
          rw [h] at h0
          have h1 : ¬ total n ≤ 262144 := by
            have h2 := of_decide_eq_false h0
            have := total_le (n := n) (k := i + 1)
            have := HT2.out
            omega
          unfold chk
          rw [decide_eq_false h1]
          simp
        case round =>
          obtain ⟨F2, k, hu, hz, hk, HC, HCE, HD⟩ := hrel
          subst hu hz
          by_cases hkn : k < K ∧ F2 = true
          · obtain ⟨hkn, rfl⟩ := hkn
            have hi2k : (k : Int) < (K : Int) := by omega
            have hi0k : (0 : Int) ≤ (k : Int) := by omega
            have hwik : IntKind.i64.wrap (k : Int) = (k : Int) := by rw [IntKind.wrap_i64]; omega
            have hwjk : IntKind.i64.wrap ((k : Int) + 1) = (k : Int) + 1 := by rw [IntKind.wrap_i64]; omega
            have hkl : k < x.arcs.length := by rw [HK.out]; exact hkn
            obtain ⟨hf1, hok⟩ := HC.out rfl
            have HOK0 := Lib.hid hok
            have HFF := Lib.hid hf1
            clear HC HCE hok hf1
            obtain ⟨gb, ob, cb, c, he1, hG1, hr1⟩ := (HRA.out.up (Keep.below HD.out)).atN oneArc (LsF.up (fun _ _ => oneArc.up (Keep.below HD.out)) _ HGA.out) hkl
            injection he1 with he1 _ he1'
            subst he1 he1'
            have hl1 := oneArc.len hG1
            have hs1 : (Try.prog.info? 55).map (·.size) = some c.length := by rw [hl1]; exact sz_Arc
            have HO1 := Lib.hid (oneArc.one hG1)
            have hZ : Holds (wr.alloc (.cells #[.int .i64 0, .int .i64 0, .int .i64 0, .slice none 0 0, .slice none 0 0, .int .u64 0] 55)) wr.heap.size 55 [.int .i64 0, .int .i64 0, .int .i64 0, .slice none 0 0, .slice none 0 0, .int .u64 0] := Holds.new wr 55 #[.int .i64 0, .int .i64 0, .int .i64 0, .slice none 0 0, .slice none 0 0, .int .u64 0]
            have HZ := Lib.hid hZ
            have HR1 := Lib.hid hr1
            have HG1 := Lib.hid hG1
            clear hr1 hG1 hZ
            go_wp2_with (first | (refine wpList_load_mid rfl 55 _ rfl gb (ob + k * 6) rfl c _ HR1.out Try.underlying55 rfl hs1 ?_) | (refine wpList_storeB rfl 55 _ _ rfl wr.heap.size 0 c rfl rfl HZ.out (by rw [hl1]; exact Nat.le_of_ble_eq_true rfl) hs1 HO1.out ?_))
            refine Named.mk (fun w8 hW => ?_)
            have hB7 : Below wr.heap.size wr w8 := by rw [hW]; exact Below.far (Below.refl _ _) (Nat.le_refl _) _ _ _
            have hD7 := HZ.out.stored hW (by rw [hl1]; exact Nat.le_of_ble_eq_true rfl)
            rw [List.take_zero, List.nil_append, List.drop_of_length_le (by rw [hl1]; exact Nat.le_of_ble_eq_true rfl), List.append_nil] at hD7
            have hG8 := oneArc.up (Keep.below hB7) HG1.out
            have HBy := Lib.hid hB7
            have hX8 := hD7
            clear hW hB7 HZ HR1 HG1 hl1 hs1 HO1 hD7
            obtain ⟨Y, hY⟩ : ∃ X, wr.heap.size = X := ⟨_, rfl⟩
            rw [hY] at hX8 ⊢
            clear hY
            obtain ⟨r, hr⟩ : ∃ r, x.arcs[k] = r := ⟨_, rfl⟩
            rw [hr] at hG8
            have HAR := Lib.hid hr
            obtain ⟨vr, vw, rfl, pr, pw⟩ := hG8
            obtain ⟨ra1, ra2, rfl, _, _, _⟩ := pr.form
            obtain ⟨wa1, wa2, rfl, _, _, _⟩ := pw.form
            obtain ⟨proc, tg, bad, reads, writes, turns⟩ := r
            dsimp only at hX8 pr pw
            have hlr : reads.length ≤ 2000000 ∧ writes.length ≤ 2000000 := by
              have := HS.out.reads i hil k (by rw [HXX.out]; exact hkl)
              simp only [HXX.out, HAR.out] at this
              exact this
            have f3 := hX8.cell 3
            simp only [List.getElem?_cons_zero, List.getElem?_cons_succ] at f3
            have HY8 := Lib.hid hX8
            have HC1 := Lib.hid (refSetFn pr hlr.1)
            have HPW := Lib.hid pw
            have HLW := Lib.hid hlr.2
            obtain ⟨L1, hL1⟩ : ∃ L, reads.length = L := ⟨_, rfl⟩
            obtain ⟨L2, hL2⟩ : ∃ L, writes.length = L := ⟨_, rfl⟩
            rw [hL1] at f3 HC1
            have HL2 := Lib.hid hL2
            have HD8 := Lib.hid (HD.out.trans (HBy.out.mono HD.out.size))
            have HNO : Hid (chkArc n.length ⟨proc, tg, bad, reads, writes, turns⟩ = false → chk n = false) := fun hc => chk_false (i := i) (j := k) hil (by rw [HXX.out]; exact hkl) (by simp only [HXX.out, HAR.out]; exact hc)
            have HYES : Hid (chkArc n.length ⟨proc, tg, bad, reads, writes, turns⟩ = true → ∀ (j : Nat) (hj : j < x.arcs.length), j < k + 1 → chkArc n.length x.arcs[j] = true) := fun hc j hj hjk => by
              rcases Nat.lt_or_ge j k with h | h
              · exact HOK0.out j hj h
              · obtain rfl : j = k := by omega
                rw [HAR.out]; exact hc
            clear hX8 pr pw hr hL1 hL2 hlr HD
            go_wp2_with (fail)
            refine HC1.out.mono ?_
            rintro e w9 ⟨rfl, hb9⟩
            have g4 := (HY8.out.belowAll hb9).cell 4
            simp only [List.getElem?_cons_zero, List.getElem?_cons_succ] at g4
            rw [HL2.out] at g4
            have hcw := refSetFn (HPW.out.up (Keep.below hb9)) HLW.out
            rw [HL2.out] at hcw
            have HC2 := Lib.hid hcw
            have HB9 := Lib.hid hb9
            clear hb9 hcw f3 HC1
            go_wp2_with (fail)
            refine HC2.out.mono ?_
            rintro e w10 ⟨rfl, hb10⟩
            have hb8 := HB9.out.trans (hb10.mono HB9.out.size)
            have g0 := (HY8.out.belowAll hb8).cell 0
            have g1 := (HY8.out.belowAll hb8).cell 1
            have g2 := (HY8.out.belowAll hb8).cell 2
            simp only [List.getElem?_cons_zero, List.getElem?_cons_succ] at g0 g1 g2
            have HDn := Lib.hid (HD8.out.trans (hb8.mono HD8.out.size))
            clear HC2 hb10 hb8 g4 HB9
            obtain ⟨b1, hb1⟩ : ∃ b, pset reads = b := ⟨_, rfl⟩
            obtain ⟨b2, hb2⟩ : ∃ b, pset writes = b := ⟨_, rfl⟩
            rw [hb1, hb2]
            have hchk : chkArc n.length ⟨proc, tg, bad, reads, writes, turns⟩ = (decide (-1 ≤ proc) && decide (proc ≤ 15) && decide (0 ≤ bad) && decide (bad ≤ 5) && b1 && b2 && decide (0 ≤ tg) && decide (tg < (M : Int)) && (bad == 0 || tg == 0)) := by
              unfold chkArc
              rw [hb1, hb2, HN.out]
            have HCK := Lib.hid hchk
            clear hb1 hb2 hchk
            cases b1 with
            | false =>
              go_wp2
              refine ⟨⟨false, k + 1, rfl, by simp, by omega, (fun h => by cases h), fun _ => HNO.out (by rw [HCK.out]; simp), HDn⟩, ?_⟩
              simp [intOf]
              omega
            | true =>
              cases b2 with
              | false =>
                go_wp2
                refine ⟨⟨false, k + 1, rfl, by simp, by omega, (fun h => by cases h), fun _ => HNO.out (by rw [HCK.out]; simp), HDn⟩, ?_⟩
                simp [intOf]
                omega
              | true =>
                by_cases a1 : -1 ≤ proc
                · have d1 : decide (-1 ≤ proc) = true := decide_eq_true a1
                  by_cases a2 : proc ≤ 15
                  · have d2 : decide (proc ≤ 15) = true := decide_eq_true a2
                    by_cases a3 : 0 ≤ bad
                    · have d3 : decide (0 ≤ bad) = true := decide_eq_true a3
                      by_cases a4 : bad ≤ 5
                      · have d4 : decide (bad ≤ 5) = true := decide_eq_true a4
                        by_cases a5 : 0 ≤ tg
                        · have d5 : decide (0 ≤ tg) = true := decide_eq_true a5
                          by_cases a6 : tg < (M : Int)
                          · have d6 : decide (tg < (M : Int)) = true := decide_eq_true a6
                            cases hq1 : (bad == 0) with
                            | true =>
                              go_wp2
                              refine ⟨⟨true, k + 1, rfl, by simp, by omega, fun _ => ⟨HFF.out, HYES.out (by rw [HCK.out, d1, d2, d3, d4, d5, d6, hq1]; simp)⟩, (fun h => by cases h), HDn⟩, ?_⟩
                              simp [intOf]
                              omega
                            | false =>
                              cases hq2 : (tg == 0) with
                              | true =>
                                go_wp2
                                refine ⟨⟨true, k + 1, rfl, by simp, by omega, fun _ => ⟨HFF.out, HYES.out (by rw [HCK.out, d1, d2, d3, d4, d5, d6, hq1, hq2]; simp)⟩, (fun h => by cases h), HDn⟩, ?_⟩
                                simp [intOf]
                                omega
                              | false =>
                                go_wp2
                                refine ⟨⟨false, k + 1, rfl, by simp, by omega, (fun h => by cases h), fun _ => HNO.out (by rw [HCK.out, hq1, hq2]; simp), HDn⟩, ?_⟩
                                simp [intOf]
                                omega
                          · have d6 : decide (tg < (M : Int)) = false := decide_eq_false a6
                            go_wp2
                            refine ⟨⟨false, k + 1, rfl, by simp, by omega, (fun h => by cases h), fun _ => HNO.out (by rw [HCK.out, d6]; simp), HDn⟩, ?_⟩
                            simp [intOf]
                            omega
                        · have d5 : decide (0 ≤ tg) = false := decide_eq_false a5
                          go_wp2
                          refine ⟨⟨false, k + 1, rfl, by simp, by omega, (fun h => by cases h), fun _ => HNO.out (by rw [HCK.out, d5]; simp), HDn⟩, ?_⟩
                          simp [intOf]
                          omega
                      · have d4 : decide (bad ≤ 5) = false := decide_eq_false a4
                        go_wp2
                        refine ⟨⟨false, k + 1, rfl, by simp, by omega, (fun h => by cases h), fun _ => HNO.out (by rw [HCK.out, d4]; simp), HDn⟩, ?_⟩
                        simp [intOf]
                        omega
                    · have d3 : decide (0 ≤ bad) = false := decide_eq_false a3
                      go_wp2
                      refine ⟨⟨false, k + 1, rfl, by simp, by omega, (fun h => by cases h), fun _ => HNO.out (by rw [HCK.out, d3]; simp), HDn⟩, ?_⟩
                      simp [intOf]
                      omega
                  · have d2 : decide (proc ≤ 15) = false := decide_eq_false a2
                    go_wp2
                    refine ⟨⟨false, k + 1, rfl, by simp, by omega, (fun h => by cases h), fun _ => HNO.out (by rw [HCK.out, d2]; simp), HDn⟩, ?_⟩
                    simp [intOf]
                    omega
                · have d1 : decide (-1 ≤ proc) = false := decide_eq_false a1
                  go_wp2
                  refine ⟨⟨false, k + 1, rfl, by simp, by omega, (fun h => by cases h), fun _ => HNO.out (by rw [HCK.out, d1]; simp), HDn⟩, ?_⟩
                  simp [intOf]
                  omega
          · have hx1 : (k < K ∧ F2 = false) ∨ (k = K) := by
              rcases Nat.lt_or_ge k K with h | h
              · refine .inl ⟨h, ?_⟩
                cases F2 with
                | true => exact absurd ⟨h, rfl⟩ hkn
                | false => rfl
              · exact .inr (by omega)
            have HTn : Hid (F2 = true → F0 = true ∧ total (n.take (i + 1)) = tt + K ∧ tt + K ≤ 262144 ∧ ∀ (j : Nat) (hj : j < n.length), j < i + 1 → n[j].arcs.all (chkArc n.length) = true) := fun h => by
              subst h
              obtain ⟨hf1, hok⟩ := HC.out rfl
              have h0 := HF2.out
              rw [hf1] at h0
              have hle := of_decide_eq_true h0
              refine ⟨HF1.out, HT2.out, by omega, fun j hj hji => ?_⟩
              rcases Nat.lt_or_ge j i with h | h
              · exact HAL.out j hj h
              · obtain rfl : j = i := by omega
                have hkk : k = K := by
                  rcases hx1 with ⟨_, h⟩ | h
                  · cases h
                  · exact h
                rw [HXX.out]
                refine List.all_eq_true.2 fun r hr => ?_
                obtain ⟨q, hq, rfl⟩ := List.mem_iff_getElem.1 hr
                exact hok q hq (by rw [hkk, ← HK.out]; exact hq)
            have HBn := Lib.hid (HB.out.trans (HD.out.mono HB.out.size))
            have HEn := Lib.hid HCE.out
            clear HC HD HCE HAL hkn
            rcases hx1 with ⟨hkK, rfl⟩ | rfl
            · have hk2 : (k : Int) < (K : Int) := by omega
              go_wp2
              refine ⟨⟨false, i + 1, tt + K, rfl, by simp, by simp, by omega, HTn, HEn, HBn⟩, ?_⟩
              simp [intOf]
              omega
            · cases F2
              · go_wp2
                refine ⟨⟨false, i + 1, tt + k, rfl, by simp, by simp, by omega, HTn, HEn, HBn⟩, ?_⟩
                simp [intOf]
                omega
              · go_wp2
                refine ⟨⟨true, i + 1, tt + k, rfl, by simp, by simp, by omega, HTn, HEn, HBn⟩, ?_⟩
                simp [intOf]
                omega
      · have HF : Hid (ChkPost n w (.returned (errC F)) wr) := by
          refine ⟨?_, HB0.out.trans (HB.out.mono HB0.out.size)⟩
          congr 2
          cases F with
          | false => exact (HE.out rfl).symm
          | true =>
            obtain ⟨hf0, htt, ht2, hall⟩ := HT.out rfl
            have hiM : i = M := by
              rcases Nat.lt_or_ge i M with h | h
              · exact absurd ⟨h, rfl⟩ hin
              · omega
            subst hiM
            have hff := HF0.out
            rw [hf0] at hff
            simp only [Bool.and_eq_true, decide_eq_true_eq] at hff
            have h1 : total n = tt := by rw [← htt, List.take_of_length_le (by rw [HN.out]; exact Nat.le_refl _)]
            have h2 : n.all (fun x => x.arcs.all (chkArc n.length)) = true := List.all_eq_true.2 fun x hx => by
              obtain ⟨q, hq, rfl⟩ := List.mem_iff_getElem.1 hx
              exact hall q hq (by rw [← HN.out]; exact hq)
            unfold chk
            rw [h2, h1, HN.out, decide_eq_true hff.1, decide_eq_true hff.2, decide_eq_true ht2]
            rfl
        have hx1 : i < M ∧ F = false ∨ i = M := by
          rcases Nat.lt_or_ge i M with h | h
          · refine .inl ⟨h, ?_⟩
            cases F with
            | true => exact absurd ⟨h, rfl⟩ hin
            | false => rfl
          · exact .inr (by omega)
        clear HT HE hin
        unfold errC at HF
        rcases hx1 with ⟨hiM, rfl⟩ | rfl
        · have hi2 : (i : Int) < (M : Int) := by omega
          go_wp2
          go_ret
          exact HF.out
        · cases F
          · go_wp2
            go_ret
            exact HF.out
          · go_wp2
            go_ret
            exact HF.out
end Go.Proofs.Ytcedenoicmpjmaa
