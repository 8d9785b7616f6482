/- The walk of sextantref02.word where a number begins. -/
import Derived.Test.YtndcbbhfhcjadaaDoorRWord
namespace Go.Proofs.YtndcbbhfhcjadaaDoor
open Go.RowKit

theorem val_app (xs : Bs) (v : Nat) (c : UInt8) : val v (xs ++ [c]) = 10 * val v xs + (c.toNat - 48) := by
  unfold val
  rw [List.foldl_append]
  rfl
theorem take_next {s : ByteArray} {i k : Nat} (hik : i ≤ k) (hk : k < s.size) : (rest s i).take (k + 1 - i) = (rest s i).take (k - i) ++ [s[k]] := by
  have e : k + 1 - i = (k - i) + 1 := by omega
  have hl : k - i < (rest s i).length := by unfold rest; rw [List.length_drop]; simp; omega
  rw [e, List.take_add_one, List.getElem?_eq_getElem hl]
  have : (rest s i)[k - i]? = some s[k] := by
    unfold rest
    rw [List.getElem?_drop, show i + (k - i) = k by omega]
    exact List.getElem?_eq_getElem (by simpa using hk)
  rw [List.getElem?_eq_getElem hl] at this
  rw [this]; rfl
theorem rest_drop (s : ByteArray) (i n : Nat) : (rest s i).drop n = rest s (i + n) := by unfold rest; rw [List.drop_drop]
theorem pow_ten {V m d : Nat} (h : V < 10 ^ m) (hd : d ≤ 9) : 10 * V + d < 10 ^ (m + 1) := by rw [Nat.pow_succ]; omega

theorem word_dig {s : ByteArray} {i n : Nat} (h : i < s.size) (hL : ltr s[i].toNat = false) (hD : dig s[i].toNat = true) (hn : ((rest s i).takeWhile isDig).length = n) :
    word i (rest s i) = if 10 < n || 2147483647 < val 0 ((rest s i).take n) || ((rest s (i + n)).head?.any fun d => ltr d.toNat) then .bad 22 i else .ok (⟨2, (rest s i).take n, val 0 ((rest s i).take n), i⟩, i + n) := by
  rw [← rest_drop]
  rw [rest_cons h] at hn ⊢
  unfold word
  simp only [hL, Bool.false_eq_true, if_false, isDig, hD, if_true]
  rw [hn]
theorem head_at {s : ByteArray} {k : Nat} (h : k < s.size) : ((rest s k).head?.any fun d => ltr d.toNat) = ltr s[k].toNat := by rw [rest_cons h]; rfl
theorem head_end {s : ByteArray} {k : Nat} (h : s.size ≤ k) : ((rest s k).head?.any fun d => ltr d.toNat) = false := by rw [rest_end h]; rfl
set_option maxHeartbeats 4000000 in
set_option maxRecDepth 100000 in
theorem refWordD (s : ByteArray) (i : Nat) (hi : i < s.size) (hs : s.size ≤ 65536) (w : World) (hL : ltr s[i].toNat = false) (hD : dig s[i].toNat = true) :
    Calls Tryd.prog 19 #[.string s, .int .i64 (i : Int)] w (TokPost (word i (rest s i)) w) := by
  obtain ⟨R, hR⟩ : ∃ R, R = word i (rest s i) := ⟨_, rfl⟩
  rw [← hR]
  have HR := Lib.hid hR
  clear hR
  go_enter Tryd.func19, Tryd.ntmps19
  go_wp2_with (fail)
  refine (refLetter _ _).mono ?_
  rintro e w1 ⟨rfl, rfl⟩
  go_wp2_with (fail)
  refine (refDigit _ _).mono ?_
  rintro e w1 ⟨rfl, rfl⟩
  go_wp2_with (fail)
  go_loopw [8, 10] (fun n x wr => ∃ k V : Nat, n = .int .i64 (k : Int) ∧ x = .int .i64 (V : Int) ∧ i < k + 1 ∧ k ≤ s.size ∧ Hid (((rest s i).takeWhile isDig).length = (k - i) + ((rest s k).takeWhile isDig).length) ∧ Hid (V = val 0 ((rest s i).take (min (k - i) 10))) ∧ Hid (V < 10 ^ min (k - i) 10) ∧ V < 10000000000 ∧ Holds wr w.heap.size 34 [.int .i64 0, .string ⟨#[]⟩, .int .i64 0, .int .i64 0] ∧ Holds wr (w.heap.size + 1) 26 [.int .i64 0, .int .i64 0] ∧ Below w.heap.size w wr) (fun n _ _ => (s.size + 10 - intOf n).toNat)
  case atStart =>
    obtain ⟨h1, h2, h3⟩ := laid34 w 34 #[.int .i64 0, .string ⟨#[]⟩, .int .i64 0, .int .i64 0] #[.int .i64 0, .int .i64 0]
    exact ⟨i, 0, rfl, rfl, by omega, by omega, (show _ = _ by simp), (show _ = _ by simp [val]), (show _ < _ by simp), by omega, h1, h2, h3⟩
  case round =>
    obtain ⟨k, V, rfl, rfl, hik, hk, HK, HV, HB, hV, hT, hM, hB⟩ := hrel
    by_cases hl : k < s.size
    · by_cases h1 : dig s[k].toNat = true
      · have HS := Lib.hid (tw_more isDig hl h1)
        have hd1 : 48 ≤ (s[k].toNat : Int) := by unfold dig at h1; simp at h1; omega
        have hd2 : (s[k].toNat : Int) ≤ 57 := by unfold dig at h1; simp at h1; omega
        by_cases h10 : k - i < 10
        · have h10' : (k : Int) - (i : Int) < 10 := by omega
          have hm : min (k - i) 10 = k - i := by omega
          rw [hm] at HV HB
          have hm' : min (k + 1 - i) 10 = k + 1 - i := by omega
          have HX : Hid (10 * V + (s[k].toNat - 48) = val 0 ((rest s i).take (min (k + 1 - i) 10))) := by
            show _ = _
            rw [hm', take_next (by omega) hl, val_app, ← HV.out]
          have HY : Hid (10 * V + (s[k].toNat - 48) < 10 ^ min (k + 1 - i) 10) := by
            show _ < _
            have e : k + 1 - i = (k - i) + 1 := by omega
            rw [hm', e]
            exact pow_ten HB.out (by omega)
          have hz : 10 * V + (s[k].toNat - 48) < 10000000000 := Nat.lt_of_lt_of_le HY.out (Nat.le_trans (Nat.pow_le_pow_right (by omega) (Nat.min_le_right _ 10)) (by decide))
          go_wp2_with (first | (go_at_call 33; refine (refLetter _ _).mono ?_; rintro e w1 ⟨rfl, rfl⟩) | (go_at_call 34; refine (refDigit _ _).mono ?_; rintro e w1 ⟨rfl, rfl⟩))
          exact ⟨⟨k + 1, 10 * V + (s[k].toNat - 48), rfl, congrArg (Value.int .i64) (by omega), by omega, by omega, (show _ = _ by rw [HK.out, HS.out]; omega), HX, HY, hz, hT, hM, hB⟩, by simp [intOf]; omega⟩
        · have h10' : decide ((k : Int) - (i : Int) < 10) = false := by simp; omega
          have hm : min (k + 1 - i) 10 = min (k - i) 10 := by omega
          go_wp2_with (first | (go_at_call 33; refine (refLetter _ _).mono ?_; rintro e w1 ⟨rfl, rfl⟩) | (go_at_call 34; refine (refDigit _ _).mono ?_; rintro e w1 ⟨rfl, rfl⟩))
          exact ⟨⟨k + 1, V, rfl, rfl, by omega, by omega, (show _ = _ by rw [HK.out, HS.out]; omega), (by rw [hm]; exact HV), (by rw [hm]; exact HB), hV, hT, hM, hB⟩, by simp [intOf]; omega⟩
      · have h1' := eq_false_of_ne_true h1
        clear h1
        have HS := Lib.hid (tw_stop isDig hl h1')
        have HN : Hid (((rest s i).takeWhile isDig).length = k - i) := by
          have := HK.out
          rw [HS.out] at this
          exact this
        have HW := Lib.hid (word_dig hi hL hD HN.out)
        have e : i + (k - i) = k := by omega
        by_cases h10 : 10 < k - i
        · have HQ : Hid (word i (rest s i) = .bad 22 i) := by
            show _ = _
            rw [HW.out, if_pos (by simp [h10])]
          have h10' : (10 : Int) < (k : Int) - (i : Int) := by omega
          go_wp2_with ((first | (go_at_call 33; refine (refLetter _ _).mono ?_; rintro e w1 ⟨rfl, rfl⟩) | (go_at_call 34; refine (refDigit _ _).mono ?_; rintro e w1 ⟨rfl, rfl⟩) | fail))
          refine (refBad 22 i _).mono ?_
          rintro e w2 ⟨rfl, hb2⟩
          have hT2 := hT.belowAll hb2
          have hM2 := hM.belowAll hb2
          have hB2 := hB.trans (hb2.mono hB.size)
          have c0 := hT2.cell 0
          have c1 := hT2.cell 1
          have c2 := hT2.cell 2
          have c3 := hT2.cell 3
          have d0 := hM2.cell 0
          have d1 := hM2.cell 1
          have f0 := hT2.free 0
          have f1 := hT2.free 1
          have f2 := hT2.free 2
          have f3 := hT2.free 3
          have g0 := hM2.free 0
          have g1 := hM2.free 1
          simp at c0 c1 c2 c3 d0 d1
          unfold mish
          go_wp2
          obtain ⟨h1, h2, h3⟩ := six hT2 hM2 hB2 (.int .i64 0) (.string ⟨#[]⟩) (.int .i64 0) (.int .i64 0) (.int .i64 22) (.int .i64 (i : Nat))
          exact bodyPost_ret (out19 h1 h2 rfl rfl) rfl ⟨h3, by rw [HR.out, HQ.out]; rfl⟩
        · have hmin : min (k - i) 10 = k - i := by omega
          rw [hmin] at HV HB
          have h10' : decide ((10 : Int) < (k : Int) - (i : Int)) = false := by simp; omega
          by_cases hbig : 2147483647 < V
          · have HQ : Hid (word i (rest s i) = .bad 22 i) := by
              show _ = _
              rw [HW.out, if_pos (by rw [← HV.out]; simp [hbig])]
            have hbig' : (2147483647 : Int) < (V : Int) := by omega
            go_wp2_with ((first | (go_at_call 33; refine (refLetter _ _).mono ?_; rintro e w1 ⟨rfl, rfl⟩) | (go_at_call 34; refine (refDigit _ _).mono ?_; rintro e w1 ⟨rfl, rfl⟩) | fail))
            refine (refBad 22 i _).mono ?_
            rintro e w2 ⟨rfl, hb2⟩
            have hT2 := hT.belowAll hb2
            have hM2 := hM.belowAll hb2
            have hB2 := hB.trans (hb2.mono hB.size)
            have c0 := hT2.cell 0
            have c1 := hT2.cell 1
            have c2 := hT2.cell 2
            have c3 := hT2.cell 3
            have d0 := hM2.cell 0
            have d1 := hM2.cell 1
            have f0 := hT2.free 0
            have f1 := hT2.free 1
            have f2 := hT2.free 2
            have f3 := hT2.free 3
            have g0 := hM2.free 0
            have g1 := hM2.free 1
            simp at c0 c1 c2 c3 d0 d1
            unfold mish
            go_wp2
            obtain ⟨h1, h2, h3⟩ := six hT2 hM2 hB2 (.int .i64 0) (.string ⟨#[]⟩) (.int .i64 0) (.int .i64 0) (.int .i64 22) (.int .i64 (i : Nat))
            exact bodyPost_ret (out19 h1 h2 rfl rfl) rfl ⟨h3, by rw [HR.out, HQ.out]; rfl⟩
          · have hbig' : decide ((2147483647 : Int) < (V : Int)) = false := by simp; omega
            by_cases hl2 : ltr s[k].toNat = true
            · have HQ : Hid (word i (rest s i) = .bad 22 i) := by
                show _ = _
                rw [HW.out, if_pos (by rw [e, head_at hl, hl2]; simp)]
              go_wp2_with ((first | (go_at_call 33; refine (refLetter _ _).mono ?_; rintro e w1 ⟨rfl, rfl⟩) | (go_at_call 34; refine (refDigit _ _).mono ?_; rintro e w1 ⟨rfl, rfl⟩) | fail))
              refine (refBad 22 i _).mono ?_
              rintro e w2 ⟨rfl, hb2⟩
              have hT2 := hT.belowAll hb2
              have hM2 := hM.belowAll hb2
              have hB2 := hB.trans (hb2.mono hB.size)
              have c0 := hT2.cell 0
              have c1 := hT2.cell 1
              have c2 := hT2.cell 2
              have c3 := hT2.cell 3
              have d0 := hM2.cell 0
              have d1 := hM2.cell 1
              have f0 := hT2.free 0
              have f1 := hT2.free 1
              have f2 := hT2.free 2
              have f3 := hT2.free 3
              have g0 := hM2.free 0
              have g1 := hM2.free 1
              simp at c0 c1 c2 c3 d0 d1
              unfold mish
              go_wp2
              obtain ⟨h1, h2, h3⟩ := six hT2 hM2 hB2 (.int .i64 0) (.string ⟨#[]⟩) (.int .i64 0) (.int .i64 0) (.int .i64 22) (.int .i64 (i : Nat))
              exact bodyPost_ret (out19 h1 h2 rfl rfl) rfl ⟨h3, by rw [HR.out, HQ.out]; rfl⟩
            · have hl2' := eq_false_of_ne_true hl2
              have HQ : Hid (word i (rest s i) = .ok (⟨2, (rest s i).take (k - i), V, i⟩, k)) := by
                show _ = _
                rw [HW.out, if_neg (by rw [← HV.out, e, head_at hl, hl2']; simp; omega), ← HV.out, e]
              have hp := piece s i k
              have HP := Lib.hid hp
              clear hp
              have c0 := hT.cell 0
              have c1 := hT.cell 1
              have c2 := hT.cell 2
              have c3 := hT.cell 3
              have d0 := hM.cell 0
              have d1 := hM.cell 1
              have f0 := hT.free 0
              have f1 := hT.free 1
              have f2 := hT.free 2
              have f3 := hT.free 3
              have g0 := hM.free 0
              have g1 := hM.free 1
              simp at c0 c1 c2 c3 d0 d1
              go_wp2_with (first | (go_at_call 33; refine (refLetter _ _).mono ?_; rintro e w1 ⟨rfl, rfl⟩) | (go_at_call 34; refine (refDigit _ _).mono ?_; rintro e w1 ⟨rfl, rfl⟩))
              obtain ⟨h1, h2, h3⟩ := six hT hM hB (.int .i64 2) (.string (s.extract i k)) (.int .i64 (V : Nat)) (.int .i64 0) (.int .i64 0) (.int .i64 0)
              exact bodyPost_ret (out19 h1 h2 rfl rfl) rfl ⟨h3, by
                rw [HR.out, HQ.out, HP.out]
                rfl⟩
    · have hl' : decide ((k : Int) < (s.size : Int)) = false := by simp; omega
      have HS := Lib.hid (tw_end isDig (s := s) (k := k) (by omega))
      have HN : Hid (((rest s i).takeWhile isDig).length = k - i) := by
        have := HK.out
        rw [HS.out] at this
        exact this
      have HW := Lib.hid (word_dig hi hL hD HN.out)
      have e : i + (k - i) = k := by omega
      by_cases h10 : 10 < k - i
      · have HQ : Hid (word i (rest s i) = .bad 22 i) := by
          show _ = _
          rw [HW.out, if_pos (by simp [h10])]
        have h10' : (10 : Int) < (k : Int) - (i : Int) := by omega
        go_wp2_with ((first | (go_at_call 33; refine (refLetter _ _).mono ?_; rintro e w1 ⟨rfl, rfl⟩) | (go_at_call 34; refine (refDigit _ _).mono ?_; rintro e w1 ⟨rfl, rfl⟩) | fail))
        refine (refBad 22 i _).mono ?_
        rintro e w2 ⟨rfl, hb2⟩
        have hT2 := hT.belowAll hb2
        have hM2 := hM.belowAll hb2
        have hB2 := hB.trans (hb2.mono hB.size)
        have c0 := hT2.cell 0
        have c1 := hT2.cell 1
        have c2 := hT2.cell 2
        have c3 := hT2.cell 3
        have d0 := hM2.cell 0
        have d1 := hM2.cell 1
        have f0 := hT2.free 0
        have f1 := hT2.free 1
        have f2 := hT2.free 2
        have f3 := hT2.free 3
        have g0 := hM2.free 0
        have g1 := hM2.free 1
        simp at c0 c1 c2 c3 d0 d1
        unfold mish
        go_wp2
        obtain ⟨h1, h2, h3⟩ := six hT2 hM2 hB2 (.int .i64 0) (.string ⟨#[]⟩) (.int .i64 0) (.int .i64 0) (.int .i64 22) (.int .i64 (i : Nat))
        exact bodyPost_ret (out19 h1 h2 rfl rfl) rfl ⟨h3, by rw [HR.out, HQ.out]; rfl⟩
      · have hmin : min (k - i) 10 = k - i := by omega
        rw [hmin] at HV HB
        have h10' : decide ((10 : Int) < (k : Int) - (i : Int)) = false := by simp; omega
        by_cases hbig : 2147483647 < V
        · have HQ : Hid (word i (rest s i) = .bad 22 i) := by
            show _ = _
            rw [HW.out, if_pos (by rw [← HV.out]; simp [hbig])]
          have hbig' : (2147483647 : Int) < (V : Int) := by omega
          go_wp2_with ((first | (go_at_call 33; refine (refLetter _ _).mono ?_; rintro e w1 ⟨rfl, rfl⟩) | (go_at_call 34; refine (refDigit _ _).mono ?_; rintro e w1 ⟨rfl, rfl⟩) | fail))
          refine (refBad 22 i _).mono ?_
          rintro e w2 ⟨rfl, hb2⟩
          have hT2 := hT.belowAll hb2
          have hM2 := hM.belowAll hb2
          have hB2 := hB.trans (hb2.mono hB.size)
          have c0 := hT2.cell 0
          have c1 := hT2.cell 1
          have c2 := hT2.cell 2
          have c3 := hT2.cell 3
          have d0 := hM2.cell 0
          have d1 := hM2.cell 1
          have f0 := hT2.free 0
          have f1 := hT2.free 1
          have f2 := hT2.free 2
          have f3 := hT2.free 3
          have g0 := hM2.free 0
          have g1 := hM2.free 1
          simp at c0 c1 c2 c3 d0 d1
          unfold mish
          go_wp2
          obtain ⟨h1, h2, h3⟩ := six hT2 hM2 hB2 (.int .i64 0) (.string ⟨#[]⟩) (.int .i64 0) (.int .i64 0) (.int .i64 22) (.int .i64 (i : Nat))
          exact bodyPost_ret (out19 h1 h2 rfl rfl) rfl ⟨h3, by rw [HR.out, HQ.out]; rfl⟩
        · have hbig' : decide ((2147483647 : Int) < (V : Int)) = false := by simp; omega
          have HQ : Hid (word i (rest s i) = .ok (⟨2, (rest s i).take (k - i), V, i⟩, k)) := by
            show _ = _
            rw [HW.out, if_neg (by rw [← HV.out, e, head_end (by omega)]; simp; omega), ← HV.out, e]
          have hp := piece s i k
          have HP := Lib.hid hp
          clear hp
          have c0 := hT.cell 0
          have c1 := hT.cell 1
          have c2 := hT.cell 2
          have c3 := hT.cell 3
          have d0 := hM.cell 0
          have d1 := hM.cell 1
          have f0 := hT.free 0
          have f1 := hT.free 1
          have f2 := hT.free 2
          have f3 := hT.free 3
          have g0 := hM.free 0
          have g1 := hM.free 1
          simp at c0 c1 c2 c3 d0 d1
          go_wp2_with (first | (go_at_call 33; refine (refLetter _ _).mono ?_; rintro e w1 ⟨rfl, rfl⟩) | (go_at_call 34; refine (refDigit _ _).mono ?_; rintro e w1 ⟨rfl, rfl⟩))
          obtain ⟨h1, h2, h3⟩ := six hT hM hB (.int .i64 2) (.string (s.extract i k)) (.int .i64 (V : Nat)) (.int .i64 0) (.int .i64 0) (.int .i64 0)
          exact bodyPost_ret (out19 h1 h2 rfl rfl) rfl ⟨h3, by
            rw [HR.out, HQ.out, HP.out]
            rfl⟩

end Go.Proofs.YtndcbbhfhcjadaaDoor
