/- The walk of sextantref02.word. -/
import Derived.Test.YtndcbbhfhcjadaaDoorQuo
import Derived.Test.YtndcbbhfhcjadaaDoorNames
namespace Go.Proofs.YtndcbbhfhcjadaaDoor
open Go.RowKit

theorem tw_more (p : UInt8 → Bool) {s : ByteArray} {k : Nat} (h : k < s.size) (hp : p s[k] = true) : ((rest s k).takeWhile p).length = ((rest s (k + 1)).takeWhile p).length + 1 := by
  rw [rest_cons h, List.takeWhile_cons, if_pos hp]; simp
theorem tw_stop (p : UInt8 → Bool) {s : ByteArray} {k : Nat} (h : k < s.size) (hp : p s[k] = false) : ((rest s k).takeWhile p).length = 0 := by
  rw [rest_cons h, List.takeWhile_cons, if_neg (by simp [hp])]; rfl
theorem tw_end (p : UInt8 → Bool) {s : ByteArray} {k : Nat} (h : s.size ≤ k) : ((rest s k).takeWhile p).length = 0 := by
  rw [rest_end h]; rfl

/-- A piece of a text. -/
theorem piece (s : ByteArray) (i k : Nat) : s.extract i k = ⟨((rest s i).take (k - i)).toArray⟩ := by
  apply ByteArray.ext
  rw [ByteArray.data_extract]
  apply Array.ext'
  rw [Array.toList_extract]
  simp [rest, List.take_drop]
  
theorem isIn_of (l : List Bs) (xs : Bs) : isIn l ⟨xs.toArray⟩ = l.contains xs := by
  unfold isIn
  rw [List.contains_eq_any_beq, ByteArray.toList_eq]

theorem out19 {w : World} {tmps : Array Value} {g h : Nat} {a b c d x y : Value} (hH : Holds w g 34 [a, b, c, d]) (hK : Holds w h 26 [x, y])
    (h4 : tmps[4]?.getD undef = .pointer (some ⟨g, 0, none⟩)) (h6 : tmps[6]?.getD undef = .pointer (some ⟨h, 0, none⟩)) :
    (results Tryd.f19 tmps).run Tryd.prog w = .ok (.tuple #[.agg #[a, b, c, d], tmps.getD 5 undef, .agg #[x, y]]) w := by
  have c0 := hH.cell 0
  have c1 := hH.cell 1
  have c2 := hH.cell 2
  have c3 := hH.cell 3
  have d0 := hK.cell 0
  have d1 := hK.cell 1
  simp at c0 c1 c2 c3 d0 d1
  simp [results, Tryd.results19, h4, h6, go_sem, c0, c1, c2, c3, d0, d1]

theorem word_ltr_bad {s : ByteArray} {i n : Nat} (h : i < s.size) (hL : ltr s[i].toNat = true) (hn : ((rest s i).takeWhile lod).length = n) (h32 : 32 < n) : word i (rest s i) = .bad 22 i := by
  rw [rest_cons h] at hn ⊢
  unfold word
  simp only [hL, if_true, hn, h32]
theorem word_ltr_ok {s : ByteArray} {i n : Nat} (h : i < s.size) (hL : ltr s[i].toNat = true) (hn : ((rest s i).takeWhile lod).length = n) (h32 : ¬ 32 < n) :
    word i (rest s i) = .ok (⟨if names.contains ((rest s i).take n) then 4 else 1, (rest s i).take n, 0, i⟩, i + n) := by
  rw [rest_cons h] at hn ⊢
  unfold word
  simp only [hL, if_true, hn, h32, if_false]

/-- The structs of the answer as they lie at first. -/
theorem laid34 (w : World) (t : TypeId) (cs ds : Array Value) : Holds ((w.alloc (.cells cs t)).alloc (.cells ds 26)) w.heap.size t cs.toList ∧ Holds ((w.alloc (.cells cs t)).alloc (.cells ds 26)) (w.heap.size + 1) 26 ds.toList ∧
    Below w.heap.size w ((w.alloc (.cells cs t)).alloc (.cells ds 26)) := by
  refine ⟨(Holds.new w _ _).alloc _, ?_, ((Below.refl _ _).alloc (Nat.le_refl _) _).alloc (by simp) _⟩
  have := Holds.new (w.alloc (.cells cs t)) 26 ds
  simpa using this

set_option maxHeartbeats 4000000 in
set_option maxRecDepth 100000 in
theorem refWordL (s : ByteArray) (i : Nat) (hi : i < s.size) (hs : s.size ≤ 65536) (w : World) (hL : ltr s[i].toNat = true) :
    Calls Tryd.prog 19 #[.string s, .int .i64 (i : Int)] w (TokPost (word i (rest s i)) w) := by
  obtain ⟨R, hR⟩ : ∃ R, R = word i (rest s i) := ⟨_, rfl⟩
  rw [← hR]
  have HR := Lib.hid hR
  clear hR
  go_enter Tryd.func19, Tryd.ntmps19
  go_wp2_with (fail)
  refine (refLetter _ _).mono ?_
  rintro e w1 ⟨rfl, rfl⟩
  go_wp2_with (fail)
  go_loopw [8] (fun n wr => ∃ k : Nat, n = .int .i64 (k : Int) ∧ i < k + 1 ∧ k ≤ s.size ∧ Hid (((rest s i).takeWhile lod).length = (k - i) + ((rest s k).takeWhile lod).length) ∧ Holds wr w.heap.size 34 [.int .i64 0, .string ⟨#[]⟩, .int .i64 0, .int .i64 0] ∧ Holds wr (w.heap.size + 1) 26 [.int .i64 0, .int .i64 0] ∧ Below w.heap.size w wr) (fun n _ => (s.size + 10 - intOf n).toNat)
  case atStart =>
    obtain ⟨h1, h2, h3⟩ := laid34 w 34 #[.int .i64 0, .string ⟨#[]⟩, .int .i64 0, .int .i64 0] #[.int .i64 0, .int .i64 0]
    exact ⟨i, rfl, by omega, by omega, (show _ = _ by simp), h1, h2, h3⟩
  case round =>
    obtain ⟨k, rfl, hik, hk, HK, hT, hM, hB⟩ := hrel
    by_cases hl : k < s.size
    · by_cases h1 : ltr s[k].toNat = true
      · have HS := Lib.hid (tw_more lod hl (by unfold lod; rw [h1]; rfl))
        go_wp2_with (first | (go_at_call 33; refine (refLetter _ _).mono ?_; rintro e w1 ⟨rfl, rfl⟩) | (go_at_call 34; refine (refDigit _ _).mono ?_; rintro e w1 ⟨rfl, rfl⟩))
        exact ⟨⟨k + 1, rfl, by omega, by omega, (show _ = _ by rw [HK.out, HS.out]; omega), hT, hM, hB⟩, by simp [intOf]; omega⟩
      · have h1' := eq_false_of_ne_true h1
        clear h1
        by_cases h2 : dig s[k].toNat = true
        · have HS := Lib.hid (tw_more lod hl (by unfold lod; rw [h2]; simp))
          go_wp2_with (first | (go_at_call 33; refine (refLetter _ _).mono ?_; rintro e w1 ⟨rfl, rfl⟩) | (go_at_call 34; refine (refDigit _ _).mono ?_; rintro e w1 ⟨rfl, rfl⟩))
          exact ⟨⟨k + 1, rfl, by omega, by omega, (show _ = _ by rw [HK.out, HS.out]; omega), hT, hM, hB⟩, by simp [intOf]; omega⟩
        · have h2' := eq_false_of_ne_true h2
          clear h2
          have HS := Lib.hid (tw_stop lod hl (by unfold lod; rw [h1', h2']; rfl))
          have HN : Hid (((rest s i).takeWhile lod).length = k - i) := by
            have := HK.out
            rw [HS.out] at this
            exact this
          by_cases h32 : 32 < k - i
          · have HQ := Lib.hid (word_ltr_bad hi hL HN.out h32)
            have h32' : (32 : Int) < (k : Int) - (i : Int) := by omega
            go_wp2_with ((first | (go_at_call 33; refine (refLetter _ _).mono ?_; rintro e w1 ⟨rfl, rfl⟩) | (go_at_call 34; refine (refDigit _ _).mono ?_; rintro e w1 ⟨rfl, rfl⟩) | fail))
            refine (refBad 22 i _).mono ?_
            rintro e w2 ⟨rfl, hb2⟩
            have hT2 := hT.belowAll hb2
            have hM2 := hM.belowAll hb2
            have hB2 := hB.trans (hb2.mono hB.size)
            have c0 := hT2.cell 0
            have c1 := hT2.cell 1
            have c2 := hT2.cell 2
            have c3 := hT2.cell 3
            have d0 := hM2.cell 0
            have d1 := hM2.cell 1
            have f0 := hT2.free 0
            have f1 := hT2.free 1
            have f2 := hT2.free 2
            have f3 := hT2.free 3
            have g0 := hM2.free 0
            have g1 := hM2.free 1
            simp at c0 c1 c2 c3 d0 d1
            unfold mish
            go_wp2
            obtain ⟨h1, h2, h3⟩ := six hT2 hM2 hB2 (.int .i64 0) (.string ⟨#[]⟩) (.int .i64 0) (.int .i64 0) (.int .i64 22) (.int .i64 (i : Nat))
            exact bodyPost_ret (out19 h1 h2 rfl rfl) rfl ⟨h3, by rw [HR.out, HQ.out]; rfl⟩
          · have HQ := Lib.hid (word_ltr_ok hi hL HN.out h32)
            have h32' : decide ((32 : Int) < (k : Int) - (i : Int)) = false := by simp; omega
            have hp := piece s i k
            have hin := isIn_of names ((rest s i).take (k - i))
            rw [← hp] at hin
            have HP := Lib.hid hp
            have HI := Lib.hid hin
            clear hp hin
            have c0 := hT.cell 0
            have c1 := hT.cell 1
            have c2 := hT.cell 2
            have c3 := hT.cell 3
            have d0 := hM.cell 0
            have d1 := hM.cell 1
            have f0 := hT.free 0
            have f1 := hT.free 1
            have f2 := hT.free 2
            have f3 := hT.free 3
            have g0 := hM.free 0
            have g1 := hM.free 1
            simp at c0 c1 c2 c3 d0 d1
            by_cases hnm : isIn names (s.extract i k) = true
            · skip
              go_wp2_with (first | (go_at_call 21; refine (refName _ _).mono ?_; rintro e w1 ⟨rfl, rfl⟩) | (go_at_call 33; refine (refLetter _ _).mono ?_; rintro e w1 ⟨rfl, rfl⟩) | (go_at_call 34; refine (refDigit _ _).mono ?_; rintro e w1 ⟨rfl, rfl⟩))
              obtain ⟨h1, h2, h3⟩ := six hT hM hB (.int .i64 4) (.string (s.extract i k)) (.int .i64 0) (.int .i64 0) (.int .i64 0) (.int .i64 0)
              exact bodyPost_ret (out19 h1 h2 rfl rfl) rfl ⟨h3, by
                rw [HR.out, HQ.out, ← HI.out, hnm, HP.out]
                have e : i + (k - i) = k := by omega
                simp [e, tok, mish]⟩
            · have hnm' := eq_false_of_ne_true hnm
              go_wp2_with (first | (go_at_call 21; refine (refName _ _).mono ?_; rintro e w1 ⟨rfl, rfl⟩) | (go_at_call 33; refine (refLetter _ _).mono ?_; rintro e w1 ⟨rfl, rfl⟩) | (go_at_call 34; refine (refDigit _ _).mono ?_; rintro e w1 ⟨rfl, rfl⟩))
              obtain ⟨h1, h2, h3⟩ := six hT hM hB (.int .i64 1) (.string (s.extract i k)) (.int .i64 0) (.int .i64 0) (.int .i64 0) (.int .i64 0)
              exact bodyPost_ret (out19 h1 h2 rfl rfl) rfl ⟨h3, by
                rw [HR.out, HQ.out, ← HI.out, hnm', HP.out]
                have e : i + (k - i) = k := by omega
                simp [e, tok, mish]⟩
    · have hl' : decide ((k : Int) < (s.size : Int)) = false := by simp; omega
      have HS := Lib.hid (tw_end lod (s := s) (k := k) (by omega))
      have HN : Hid (((rest s i).takeWhile lod).length = k - i) := by
        have := HK.out
        rw [HS.out] at this
        exact this
      by_cases h32 : 32 < k - i
      · have HQ := Lib.hid (word_ltr_bad hi hL HN.out h32)
        have h32' : (32 : Int) < (k : Int) - (i : Int) := by omega
        go_wp2_with ((first | (go_at_call 33; refine (refLetter _ _).mono ?_; rintro e w1 ⟨rfl, rfl⟩) | (go_at_call 34; refine (refDigit _ _).mono ?_; rintro e w1 ⟨rfl, rfl⟩) | fail))
        refine (refBad 22 i _).mono ?_
        rintro e w2 ⟨rfl, hb2⟩
        have hT2 := hT.belowAll hb2
        have hM2 := hM.belowAll hb2
        have hB2 := hB.trans (hb2.mono hB.size)
        have c0 := hT2.cell 0
        have c1 := hT2.cell 1
        have c2 := hT2.cell 2
        have c3 := hT2.cell 3
        have d0 := hM2.cell 0
        have d1 := hM2.cell 1
        have f0 := hT2.free 0
        have f1 := hT2.free 1
        have f2 := hT2.free 2
        have f3 := hT2.free 3
        have g0 := hM2.free 0
        have g1 := hM2.free 1
        simp at c0 c1 c2 c3 d0 d1
        unfold mish
        go_wp2
        obtain ⟨h1, h2, h3⟩ := six hT2 hM2 hB2 (.int .i64 0) (.string ⟨#[]⟩) (.int .i64 0) (.int .i64 0) (.int .i64 22) (.int .i64 (i : Nat))
        exact bodyPost_ret (out19 h1 h2 rfl rfl) rfl ⟨h3, by rw [HR.out, HQ.out]; rfl⟩
      · have HQ := Lib.hid (word_ltr_ok hi hL HN.out h32)
        have h32' : decide ((32 : Int) < (k : Int) - (i : Int)) = false := by simp; omega
        have hp := piece s i k
        have hin := isIn_of names ((rest s i).take (k - i))
        rw [← hp] at hin
        have HP := Lib.hid hp
        have HI := Lib.hid hin
        clear hp hin
        have c0 := hT.cell 0
        have c1 := hT.cell 1
        have c2 := hT.cell 2
        have c3 := hT.cell 3
        have d0 := hM.cell 0
        have d1 := hM.cell 1
        have f0 := hT.free 0
        have f1 := hT.free 1
        have f2 := hT.free 2
        have f3 := hT.free 3
        have g0 := hM.free 0
        have g1 := hM.free 1
        simp at c0 c1 c2 c3 d0 d1
        by_cases hnm : isIn names (s.extract i k) = true
        · skip
          go_wp2_with (first | (go_at_call 21; refine (refName _ _).mono ?_; rintro e w1 ⟨rfl, rfl⟩) | (go_at_call 33; refine (refLetter _ _).mono ?_; rintro e w1 ⟨rfl, rfl⟩) | (go_at_call 34; refine (refDigit _ _).mono ?_; rintro e w1 ⟨rfl, rfl⟩))
          obtain ⟨h1, h2, h3⟩ := six hT hM hB (.int .i64 4) (.string (s.extract i k)) (.int .i64 0) (.int .i64 0) (.int .i64 0) (.int .i64 0)
          exact bodyPost_ret (out19 h1 h2 rfl rfl) rfl ⟨h3, by
            rw [HR.out, HQ.out, ← HI.out, hnm, HP.out]
            have e : i + (k - i) = k := by omega
            simp [e, tok, mish]⟩
        · have hnm' := eq_false_of_ne_true hnm
          go_wp2_with (first | (go_at_call 21; refine (refName _ _).mono ?_; rintro e w1 ⟨rfl, rfl⟩) | (go_at_call 33; refine (refLetter _ _).mono ?_; rintro e w1 ⟨rfl, rfl⟩) | (go_at_call 34; refine (refDigit _ _).mono ?_; rintro e w1 ⟨rfl, rfl⟩))
          obtain ⟨h1, h2, h3⟩ := six hT hM hB (.int .i64 1) (.string (s.extract i k)) (.int .i64 0) (.int .i64 0) (.int .i64 0) (.int .i64 0)
          exact bodyPost_ret (out19 h1 h2 rfl rfl) rfl ⟨h3, by
            rw [HR.out, HQ.out, ← HI.out, hnm', HP.out]
            have e : i + (k - i) = k := by omega
            simp [e, tok, mish]⟩

end Go.Proofs.YtndcbbhfhcjadaaDoor
