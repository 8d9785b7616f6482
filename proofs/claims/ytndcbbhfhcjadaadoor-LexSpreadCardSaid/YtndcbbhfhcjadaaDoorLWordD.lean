/- The walk of (*lex.scanner).word where a number begins. (Printed by mklword.py.) -/
import Derived.Test.YtndcbbhfhcjadaaDoorLWord
namespace Go.Proofs.YtndcbbhfhcjadaaDoor
open Go.RowKit
set_option linter.unusedVariables false

set_option maxHeartbeats 8000000 in
set_option maxRecDepth 100000 in
theorem lexWordD (s r : ByteArray) (i X : Nat) (m : Int) (hi : i < s.size) (hs : s.size ≤ 65536) (hr : s.extract i s.size = r) (hz : 0 < r.size) (w : World) (hX : 1 < X) (hS : Holds w X 41 [.string s, .int .i64 i])
    (hm : w.cell? ⟨1, 0, none⟩ = some (.int .i64 m)) (h1 : 1 < w.heap.size) (hL : ltr r[0].toNat = false) (hD : dig r[0].toNat = true) :
    Calls Tryd.prog 16 #[.pointer (some ⟨X, 0, none⟩)] w (LTokPost i (word 0 (rest r 0)) w) := by
  obtain ⟨R, hR⟩ : ∃ R, R = word 0 (rest r 0) := ⟨_, rfl⟩
  rw [← hR]
  have HR := Lib.hid hR
  clear hR
  have hXl := hS.lt
  have y0 := hS.cell 0
  have y1 := hS.cell 1
  simp at y0 y1
  obtain ⟨hT, hM, hB⟩ := laid34 w 33 #[.int .i64 0, .string ⟨#[]⟩, .int .i64 0, .int .i64 0] #[.int .i64 0, .int .i64 0]
  have hSr := hS.below hB hXl
  have hmr := (Holds.same (hB.block 1 h1) 0).trans hm
  go_enter Tryd.func16, Tryd.ntmps16
  go_wp2
  go_quiet (fail)
  replace hT := hT.drewN nq
  replace hM := hM.drewN nq
  replace hSr := hSr.drewN nq
  replace hB := below_drewN' hB nq
  replace hmr := drewN_cell hmr nq
  generalize (((w.alloc (.cells #[.int .i64 0, .string ⟨#[]⟩, .int .i64 0, .int .i64 0] 33)).alloc (.cells #[.int .i64 0, .int .i64 0] 26)).drewN nq) = wr at hT hM hB hSr hmr ⊢
  clear hm y0 y1
  have hrl : r.size ≤ 65536 := by rw [← hr, ByteArray.size_extract]; omega
  clear hmr hr
  go_wp2_with (fail)
  refine (lexLetter _ (UInt8.toNat_lt _) _).mono ?_
  rintro e wr ⟨rfl, rfl⟩
  go_wp2_with (fail)
  refine (lexDigit _ _).mono ?_
  rintro e wr ⟨rfl, rfl⟩
  go_wp2_with (fail)
  go_loopw [9, 10] (fun n x wr => ∃ k V : Nat, n = .int .i64 (k : Int) ∧ x = .int .i64 (V : Int) ∧ k ≤ r.size ∧ Hid (((rest r 0).takeWhile isDig).length = k + ((rest r k).takeWhile isDig).length) ∧ Hid (V = val 0 ((rest r 0).take (min k 11))) ∧ Hid (V < 10 ^ min k 11) ∧ V < 100000000000 ∧ Holds wr w.heap.size 33 [.int .i64 0, .string ⟨#[]⟩, .int .i64 0, .int .i64 0] ∧ Holds wr (w.heap.size + 1) 26 [.int .i64 0, .int .i64 0] ∧ Holds wr X 41 [.string s, .int .i64 i] ∧ Below w.heap.size w wr) (fun n _ _ => (r.size + 10 - intOf n).toNat)
  case atStart =>
    exact ⟨0, 0, rfl, rfl, by omega, (show _ = _ by simp), (show _ = _ by simp [val]), (show _ < _ by simp), by omega, hT, hM, hSr, hB⟩
  case round =>
    clear hT hM hSr hB
    obtain ⟨k, V, rfl, rfl, hk, HK, HV, HB, hV, hT, hM, hSr, hB⟩ := hrel
    by_cases hl : k < r.size
    · by_cases h1 : dig r[k].toNat = true
      · have HS := Lib.hid (tw_more isDig hl h1)
        have hd1 : 48 ≤ (r[k].toNat : Int) := by unfold dig at h1; simp at h1; omega
        have hd2 : (r[k].toNat : Int) ≤ 57 := by unfold dig at h1; simp at h1; omega
        by_cases h10 : k < 11
        · have h10' : (k : Int) < 11 := by omega
          have hm : min k 11 = k := by omega
          rw [hm] at HV HB
          have hm' : min (k + 1) 11 = k + 1 := by omega
          have HX : Hid (10 * V + (r[k].toNat - 48) = val 0 ((rest r 0).take (min (k + 1) 11))) := by
            show _ = _
            have e := take_next (Nat.zero_le k) hl
            rw [Nat.sub_zero, Nat.sub_zero] at e
            rw [hm', e, val_app, ← HV.out]
          have HY : Hid (10 * V + (r[k].toNat - 48) < 10 ^ min (k + 1) 11) := by
            show _ < _
            rw [hm']
            exact pow_ten HB.out (by omega)
          have hz : 10 * V + (r[k].toNat - 48) < 100000000000 := Nat.lt_of_lt_of_le HY.out (Nat.le_trans (Nat.pow_le_pow_right (by omega) (Nat.min_le_right _ 11)) (by decide))
          clear hm hm'
          go_wp2_with (first | (go_at_call 27; refine (lexLetter _ (UInt8.toNat_lt _) _).mono ?_; rintro e w1 ⟨rfl, rfl⟩) | (go_at_call 30; refine (lexDigit _ _).mono ?_; rintro e w1 ⟨rfl, rfl⟩) | fail)
          exact ⟨⟨k + 1, 10 * V + (r[k].toNat - 48), rfl, congrArg (Value.int .i64) (by omega), by omega, (show _ = _ by rw [HK.out, HS.out]; omega), HX, HY, hz, hT, hM, hSr, hB⟩, by simp [intOf]; omega⟩
        · have h10' : decide ((k : Int) < 11) = false := by simp; omega
          have hm : min (k + 1) 11 = min k 11 := by omega
          have HM := Lib.hid hm
          clear hm
          go_wp2_with (first | (go_at_call 27; refine (lexLetter _ (UInt8.toNat_lt _) _).mono ?_; rintro e w1 ⟨rfl, rfl⟩) | (go_at_call 30; refine (lexDigit _ _).mono ?_; rintro e w1 ⟨rfl, rfl⟩) | fail)
          exact ⟨⟨k + 1, V, rfl, rfl, by omega, (show _ = _ by rw [HK.out, HS.out]; omega), (by rw [HM.out]; exact HV), (by rw [HM.out]; exact HB), hV, hT, hM, hSr, hB⟩, by simp [intOf]; omega⟩
      · have h1' := eq_false_of_ne_true h1
        clear h1
        have HS := Lib.hid (tw_stop isDig hl h1')
        have HN : Hid (((rest r 0).takeWhile isDig).length = k) := by
          have := HK.out
          rw [HS.out] at this
          exact this
        have HW := Lib.hid (word_dig hz hL hD HN.out)
        have e : 0 + k = k := Nat.zero_add k
        have E := Lib.hid e
        clear e
        by_cases h10 : 10 < k
        · have HQ : Hid (word 0 (rest r 0) = .bad 22 0) := by
            show _ = _
            rw [HW.out, if_pos (by simp [h10])]
          have h10' : (10 : Int) < (k : Int) := by omega
          have c0 := hT.cell 0
          have c1 := hT.cell 1
          have c2 := hT.cell 2
          have c3 := hT.cell 3
          have d0 := hM.cell 0
          have d1 := hM.cell 1
          have f0 := hT.free 0
          have f1 := hT.free 1
          have f2 := hT.free 2
          have f3 := hT.free 3
          have g0 := hM.free 0
          have g1 := hM.free 1
          have x0 := hSr.cell 0
          have x1 := hSr.cell 1
          simp at c0 c1 c2 c3 d0 d1 x0 x1
          go_wp2_with (first | (go_at_call 27; refine (lexLetter _ (UInt8.toNat_lt _) _).mono ?_; rintro e w1 ⟨rfl, rfl⟩) | (go_at_call 30; refine (lexDigit _ _).mono ?_; rintro e w1 ⟨rfl, rfl⟩) | fail)
          refine (wordBad 22 i _).mono ?_
          rintro e w2 ⟨rfl, hb2⟩
          clear c0 c1 c2 c3 d0 d1 f0 f1 f2 f3 g0 g1 x0 x1
          replace hT := hT.belowAll hb2
          replace hM := hM.belowAll hb2
          replace hSr := hSr.belowAll hb2
          replace hB := hB.trans (hb2.mono hB.size)
          have c0 := hT.cell 0
          have c1 := hT.cell 1
          have c2 := hT.cell 2
          have c3 := hT.cell 3
          have d0 := hM.cell 0
          have d1 := hM.cell 1
          have f0 := hT.free 0
          have f1 := hT.free 1
          have f2 := hT.free 2
          have f3 := hT.free 3
          have g0 := hM.free 0
          have g1 := hM.free 1
          have x0 := hSr.cell 0
          have x1 := hSr.cell 1
          simp at c0 c1 c2 c3 d0 d1 x0 x1
          unfold tok mish
          go_wp2
          obtain ⟨j1, j2, j3⟩ := six hT hM hB (.int .i64 0) (.string ⟨#[]⟩) (.int .i64 0) (.int .i64 0) (.int .i64 (22 : Nat)) (.int .i64 (i : Nat))
          exact bodyPost_ret (out16 j1 j2 rfl rfl) rfl ⟨j3, by rw [HR.out, HQ.out]; rfl⟩
        · have hmin : min k 11 = k := by omega
          rw [hmin] at HV HB
          clear hmin
          have h10' : decide ((10 : Int) < (k : Int)) = false := by simp; omega
          by_cases hbig : 2147483647 < V
          · have HQ : Hid (word 0 (rest r 0) = .bad 22 0) := by
              show _ = _
              rw [HW.out, if_pos (by rw [← HV.out]; simp [hbig])]
            have hbig' : (2147483647 : Int) < (V : Int) := by omega
            have c0 := hT.cell 0
            have c1 := hT.cell 1
            have c2 := hT.cell 2
            have c3 := hT.cell 3
            have d0 := hM.cell 0
            have d1 := hM.cell 1
            have f0 := hT.free 0
            have f1 := hT.free 1
            have f2 := hT.free 2
            have f3 := hT.free 3
            have g0 := hM.free 0
            have g1 := hM.free 1
            have x0 := hSr.cell 0
            have x1 := hSr.cell 1
            simp at c0 c1 c2 c3 d0 d1 x0 x1
            go_wp2_with (first | (go_at_call 27; refine (lexLetter _ (UInt8.toNat_lt _) _).mono ?_; rintro e w1 ⟨rfl, rfl⟩) | (go_at_call 30; refine (lexDigit _ _).mono ?_; rintro e w1 ⟨rfl, rfl⟩) | fail)
            refine (wordBad 22 i _).mono ?_
            rintro e w2 ⟨rfl, hb2⟩
            clear c0 c1 c2 c3 d0 d1 f0 f1 f2 f3 g0 g1 x0 x1
            replace hT := hT.belowAll hb2
            replace hM := hM.belowAll hb2
            replace hSr := hSr.belowAll hb2
            replace hB := hB.trans (hb2.mono hB.size)
            have c0 := hT.cell 0
            have c1 := hT.cell 1
            have c2 := hT.cell 2
            have c3 := hT.cell 3
            have d0 := hM.cell 0
            have d1 := hM.cell 1
            have f0 := hT.free 0
            have f1 := hT.free 1
            have f2 := hT.free 2
            have f3 := hT.free 3
            have g0 := hM.free 0
            have g1 := hM.free 1
            have x0 := hSr.cell 0
            have x1 := hSr.cell 1
            simp at c0 c1 c2 c3 d0 d1 x0 x1
            unfold tok mish
            go_wp2
            obtain ⟨j1, j2, j3⟩ := six hT hM hB (.int .i64 0) (.string ⟨#[]⟩) (.int .i64 0) (.int .i64 0) (.int .i64 (22 : Nat)) (.int .i64 (i : Nat))
            exact bodyPost_ret (out16 j1 j2 rfl rfl) rfl ⟨j3, by rw [HR.out, HQ.out]; rfl⟩
          · have hbig' : decide ((2147483647 : Int) < (V : Int)) = false := by simp; omega
            by_cases hl2 : ltr r[k].toNat = true
            · have HQ : Hid (word 0 (rest r 0) = .bad 22 0) := by
                show _ = _
                rw [HW.out, if_pos (by rw [E.out, head_at hl, hl2]; simp)]
              have c0 := hT.cell 0
              have c1 := hT.cell 1
              have c2 := hT.cell 2
              have c3 := hT.cell 3
              have d0 := hM.cell 0
              have d1 := hM.cell 1
              have f0 := hT.free 0
              have f1 := hT.free 1
              have f2 := hT.free 2
              have f3 := hT.free 3
              have g0 := hM.free 0
              have g1 := hM.free 1
              have x0 := hSr.cell 0
              have x1 := hSr.cell 1
              simp at c0 c1 c2 c3 d0 d1 x0 x1
              go_wp2_with (first | (go_at_call 27; refine (lexLetter _ (UInt8.toNat_lt _) _).mono ?_; rintro e w1 ⟨rfl, rfl⟩) | (go_at_call 30; refine (lexDigit _ _).mono ?_; rintro e w1 ⟨rfl, rfl⟩) | fail)
              refine (wordBad 22 i _).mono ?_
              rintro e w2 ⟨rfl, hb2⟩
              clear c0 c1 c2 c3 d0 d1 f0 f1 f2 f3 g0 g1 x0 x1
              replace hT := hT.belowAll hb2
              replace hM := hM.belowAll hb2
              replace hSr := hSr.belowAll hb2
              replace hB := hB.trans (hb2.mono hB.size)
              have c0 := hT.cell 0
              have c1 := hT.cell 1
              have c2 := hT.cell 2
              have c3 := hT.cell 3
              have d0 := hM.cell 0
              have d1 := hM.cell 1
              have f0 := hT.free 0
              have f1 := hT.free 1
              have f2 := hT.free 2
              have f3 := hT.free 3
              have g0 := hM.free 0
              have g1 := hM.free 1
              have x0 := hSr.cell 0
              have x1 := hSr.cell 1
              simp at c0 c1 c2 c3 d0 d1 x0 x1
              unfold tok mish
              go_wp2
              obtain ⟨j1, j2, j3⟩ := six hT hM hB (.int .i64 0) (.string ⟨#[]⟩) (.int .i64 0) (.int .i64 0) (.int .i64 (22 : Nat)) (.int .i64 (i : Nat))
              exact bodyPost_ret (out16 j1 j2 rfl rfl) rfl ⟨j3, by rw [HR.out, HQ.out]; rfl⟩
            · have hl2' := eq_false_of_ne_true hl2
              have HQ : Hid (word 0 (rest r 0) = .ok (⟨2, (rest r 0).take k, V, 0⟩, k)) := by
                show _ = _
                rw [HW.out, if_neg (by rw [← HV.out, E.out, head_at hl, hl2']; simp; omega), ← HV.out, E.out]
              have hp := piece r 0 k
              rw [Nat.sub_zero] at hp
              clear HW HV HB HK HN HS
              have c0 := hT.cell 0
              have c1 := hT.cell 1
              have c2 := hT.cell 2
              have c3 := hT.cell 3
              have d0 := hM.cell 0
              have d1 := hM.cell 1
              have f0 := hT.free 0
              have f1 := hT.free 1
              have f2 := hT.free 2
              have f3 := hT.free 3
              have g0 := hM.free 0
              have g1 := hM.free 1
              have x0 := hSr.cell 0
              have x1 := hSr.cell 1
              simp at c0 c1 c2 c3 d0 d1 x0 x1
              go_wp2_with (first | (go_at_call 27; refine (lexLetter _ (UInt8.toNat_lt _) _).mono ?_; rintro e w1 ⟨rfl, rfl⟩) | (go_at_call 30; refine (lexDigit _ _).mono ?_; rintro e w1 ⟨rfl, rfl⟩) | fail)
              obtain ⟨j1, j2, j3⟩ := six hT hM hB (.int .i64 2) (.string ⟨((rest r 0).take k).toArray⟩) (.int .i64 (V : Nat)) (.int .i64 0) (.int .i64 0) (.int .i64 0)
              exact bodyPost_ret (out16 j1 j2 rfl rfl) rfl ⟨j3, by rw [HR.out, HQ.out]; rfl⟩
    · have hl' : decide ((k : Int) < (r.size : Int)) = false := by simp; omega
      have HS := Lib.hid (tw_end isDig (s := r) (k := k) (by omega))
      have HN : Hid (((rest r 0).takeWhile isDig).length = k) := by
        have := HK.out
        rw [HS.out] at this
        exact this
      have HW := Lib.hid (word_dig hz hL hD HN.out)
      have e : 0 + k = k := Nat.zero_add k
      have E := Lib.hid e
      clear e
      by_cases h10 : 10 < k
      · have HQ : Hid (word 0 (rest r 0) = .bad 22 0) := by
          show _ = _
          rw [HW.out, if_pos (by simp [h10])]
        have h10' : (10 : Int) < (k : Int) := by omega
        have c0 := hT.cell 0
        have c1 := hT.cell 1
        have c2 := hT.cell 2
        have c3 := hT.cell 3
        have d0 := hM.cell 0
        have d1 := hM.cell 1
        have f0 := hT.free 0
        have f1 := hT.free 1
        have f2 := hT.free 2
        have f3 := hT.free 3
        have g0 := hM.free 0
        have g1 := hM.free 1
        have x0 := hSr.cell 0
        have x1 := hSr.cell 1
        simp at c0 c1 c2 c3 d0 d1 x0 x1
        go_wp2_with (first | (go_at_call 27; refine (lexLetter _ (UInt8.toNat_lt _) _).mono ?_; rintro e w1 ⟨rfl, rfl⟩) | (go_at_call 30; refine (lexDigit _ _).mono ?_; rintro e w1 ⟨rfl, rfl⟩) | fail)
        refine (wordBad 22 i _).mono ?_
        rintro e w2 ⟨rfl, hb2⟩
        clear c0 c1 c2 c3 d0 d1 f0 f1 f2 f3 g0 g1 x0 x1
        replace hT := hT.belowAll hb2
        replace hM := hM.belowAll hb2
        replace hSr := hSr.belowAll hb2
        replace hB := hB.trans (hb2.mono hB.size)
        have c0 := hT.cell 0
        have c1 := hT.cell 1
        have c2 := hT.cell 2
        have c3 := hT.cell 3
        have d0 := hM.cell 0
        have d1 := hM.cell 1
        have f0 := hT.free 0
        have f1 := hT.free 1
        have f2 := hT.free 2
        have f3 := hT.free 3
        have g0 := hM.free 0
        have g1 := hM.free 1
        have x0 := hSr.cell 0
        have x1 := hSr.cell 1
        simp at c0 c1 c2 c3 d0 d1 x0 x1
        unfold tok mish
        go_wp2
        obtain ⟨j1, j2, j3⟩ := six hT hM hB (.int .i64 0) (.string ⟨#[]⟩) (.int .i64 0) (.int .i64 0) (.int .i64 (22 : Nat)) (.int .i64 (i : Nat))
        exact bodyPost_ret (out16 j1 j2 rfl rfl) rfl ⟨j3, by rw [HR.out, HQ.out]; rfl⟩
      · have hmin : min k 11 = k := by omega
        rw [hmin] at HV HB
        clear hmin
        have h10' : decide ((10 : Int) < (k : Int)) = false := by simp; omega
        by_cases hbig : 2147483647 < V
        · have HQ : Hid (word 0 (rest r 0) = .bad 22 0) := by
            show _ = _
            rw [HW.out, if_pos (by rw [← HV.out]; simp [hbig])]
          have hbig' : (2147483647 : Int) < (V : Int) := by omega
          have c0 := hT.cell 0
          have c1 := hT.cell 1
          have c2 := hT.cell 2
          have c3 := hT.cell 3
          have d0 := hM.cell 0
          have d1 := hM.cell 1
          have f0 := hT.free 0
          have f1 := hT.free 1
          have f2 := hT.free 2
          have f3 := hT.free 3
          have g0 := hM.free 0
          have g1 := hM.free 1
          have x0 := hSr.cell 0
          have x1 := hSr.cell 1
          simp at c0 c1 c2 c3 d0 d1 x0 x1
          go_wp2_with (first | (go_at_call 27; refine (lexLetter _ (UInt8.toNat_lt _) _).mono ?_; rintro e w1 ⟨rfl, rfl⟩) | (go_at_call 30; refine (lexDigit _ _).mono ?_; rintro e w1 ⟨rfl, rfl⟩) | fail)
          refine (wordBad 22 i _).mono ?_
          rintro e w2 ⟨rfl, hb2⟩
          clear c0 c1 c2 c3 d0 d1 f0 f1 f2 f3 g0 g1 x0 x1
          replace hT := hT.belowAll hb2
          replace hM := hM.belowAll hb2
          replace hSr := hSr.belowAll hb2
          replace hB := hB.trans (hb2.mono hB.size)
          have c0 := hT.cell 0
          have c1 := hT.cell 1
          have c2 := hT.cell 2
          have c3 := hT.cell 3
          have d0 := hM.cell 0
          have d1 := hM.cell 1
          have f0 := hT.free 0
          have f1 := hT.free 1
          have f2 := hT.free 2
          have f3 := hT.free 3
          have g0 := hM.free 0
          have g1 := hM.free 1
          have x0 := hSr.cell 0
          have x1 := hSr.cell 1
          simp at c0 c1 c2 c3 d0 d1 x0 x1
          unfold tok mish
          go_wp2
          obtain ⟨j1, j2, j3⟩ := six hT hM hB (.int .i64 0) (.string ⟨#[]⟩) (.int .i64 0) (.int .i64 0) (.int .i64 (22 : Nat)) (.int .i64 (i : Nat))
          exact bodyPost_ret (out16 j1 j2 rfl rfl) rfl ⟨j3, by rw [HR.out, HQ.out]; rfl⟩
        · have hbig' : decide ((2147483647 : Int) < (V : Int)) = false := by simp; omega
          have HQ : Hid (word 0 (rest r 0) = .ok (⟨2, (rest r 0).take k, V, 0⟩, k)) := by
            show _ = _
            rw [HW.out, if_neg (by rw [← HV.out, E.out, head_end (by omega)]; simp; omega), ← HV.out, E.out]
          have hp := piece r 0 k
          rw [Nat.sub_zero] at hp
          clear HW HV HB HK HN HS
          have c0 := hT.cell 0
          have c1 := hT.cell 1
          have c2 := hT.cell 2
          have c3 := hT.cell 3
          have d0 := hM.cell 0
          have d1 := hM.cell 1
          have f0 := hT.free 0
          have f1 := hT.free 1
          have f2 := hT.free 2
          have f3 := hT.free 3
          have g0 := hM.free 0
          have g1 := hM.free 1
          have x0 := hSr.cell 0
          have x1 := hSr.cell 1
          simp at c0 c1 c2 c3 d0 d1 x0 x1
          go_wp2_with (first | (go_at_call 27; refine (lexLetter _ (UInt8.toNat_lt _) _).mono ?_; rintro e w1 ⟨rfl, rfl⟩) | (go_at_call 30; refine (lexDigit _ _).mono ?_; rintro e w1 ⟨rfl, rfl⟩) | fail)
          obtain ⟨j1, j2, j3⟩ := six hT hM hB (.int .i64 2) (.string ⟨((rest r 0).take k).toArray⟩) (.int .i64 (V : Nat)) (.int .i64 0) (.int .i64 0) (.int .i64 0)
          exact bodyPost_ret (out16 j1 j2 rfl rfl) rfl ⟨j3, by rw [HR.out, HQ.out]; rfl⟩
end Go.Proofs.YtndcbbhfhcjadaaDoor
