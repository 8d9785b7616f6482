/- The walk of sextantref02.word where other bytes begin, and the three together. -/
import Derived.Test.YtndcbbhfhcjadaaDoorRWordD
namespace Go.Proofs.YtndcbbhfhcjadaaDoor
open Go.RowKit

theorem piece1 {s : ByteArray} {i : Nat} (h : i < s.size) : s.extract i (i + 1) = ⟨#[s[i]]⟩ := by
  rw [piece, rest_cons h, show i + 1 - i = 1 by omega]; rfl
theorem piece2 {s : ByteArray} {i : Nat} (h : i + 1 < s.size) : s.extract i (i + 2) = ⟨#[s[i], s[i + 1]]⟩ := by
  rw [piece, rest_cons (by omega), rest_cons h, show i + 2 - i = 2 by omega]; rfl
theorem word_other {s : ByteArray} {i : Nat} (h : i < s.size) (hL : ltr s[i].toNat = false) (hD : dig s[i].toNat = false) (hq : (s[i] == 34) = false) : word i (rest s i) = sign i (rest s i) := by
  rw [rest_cons h]
  unfold word
  simp only [hL, isDig, hD, hq, Bool.false_eq_true, if_false]
theorem word_quo {s : ByteArray} {i : Nat} (h : i < s.size) (hL : ltr s[i].toNat = false) (hD : dig s[i].toNat = false) (hq : (s[i] == 34) = true) : word i (rest s i) = quoRes i (quo (i + 1) [] (rest s (i + 1))) := by
  rw [rest_cons h]
  unfold word
  simp only [hL, isDig, hD, hq, Bool.false_eq_true, if_false, if_true]
  cases quo (i + 1) [] (rest s (i + 1)) with
  | bad x y => rfl
  | ok a => rfl
theorem sign_two {s : ByteArray} {i : Nat} (h : i + 1 < s.size) (h2 : twos.contains [s[i], s[i + 1]] = true) : sign i (rest s i) = .ok (⟨4, [s[i], s[i + 1]], 0, i⟩, i + 2) := by
  rw [rest_cons (by omega), rest_cons h, sign, if_pos h2]
theorem sign_one2 {s : ByteArray} {i : Nat} (h : i + 1 < s.size) (h2 : twos.contains [s[i], s[i + 1]] = false) (h1 : isOne s[i].toNat = true) : sign i (rest s i) = .ok (⟨4, [s[i]], 0, i⟩, i + 1) := by
  rw [rest_cons (by omega), rest_cons h, sign, if_neg (by rw [h2]; decide), if_pos h1]
theorem sign_none2 {s : ByteArray} {i : Nat} (h : i + 1 < s.size) (h2 : twos.contains [s[i], s[i + 1]] = false) (h1 : isOne s[i].toNat = false) : sign i (rest s i) = .bad 20 i := by
  rw [rest_cons (by omega), rest_cons h, sign, if_neg (by rw [h2]; decide), if_neg (by simp [h1])]
theorem sign_one1 {s : ByteArray} {i : Nat} (h : i < s.size) (h' : ¬ i + 1 < s.size) (h1 : isOne s[i].toNat = true) : sign i (rest s i) = .ok (⟨4, [s[i]], 0, i⟩, i + 1) := by
  rw [rest_cons h, rest_end (i := i + 1) (by omega), sign, if_pos h1]
theorem sign_none1 {s : ByteArray} {i : Nat} (h : i < s.size) (h' : ¬ i + 1 < s.size) (h1 : isOne s[i].toNat = false) : sign i (rest s i) = .bad 20 i := by
  rw [rest_cons h, rest_end (i := i + 1) (by omega), sign, if_neg (by simp [h1])]

set_option maxHeartbeats 4000000 in
set_option maxRecDepth 100000 in
theorem refWordQ (s : ByteArray) (i : Nat) (hi : i < s.size) (hs : s.size ≤ 65536) (w : World) (hL : ltr s[i].toNat = false) (hD : dig s[i].toNat = false) (hq : (s[i] == 34) = true) :
    Calls Tryd.prog 19 #[.string s, .int .i64 (i : Int)] w (TokPost (word i (rest s i)) w) := by
  rw [word_quo hi hL hD hq]
  have HC := Lib.hid fun w => refQuoted s i hi hs w
  generalize quoRes i (quo (i + 1) [] (rest s (i + 1))) = R at *
  have hq' := (u8i s[i] 34).trans hq
  change ((s[i].toNat : Int) == 34) = true at hq'
  clear hq
  obtain ⟨hT, hM, hB⟩ := laid34 w 34 #[.int .i64 0, .string ⟨#[]⟩, .int .i64 0, .int .i64 0] #[.int .i64 0, .int .i64 0]
  go_enter Tryd.func19, Tryd.ntmps19
  go_wp2_with (first | (go_at_call 33; refine (refLetter _ _).mono ?_; rintro e w1 ⟨rfl, rfl⟩) | (go_at_call 34; refine (refDigit _ _).mono ?_; rintro e w1 ⟨rfl, rfl⟩) | fail)
  refine (HC.out _).mono ?_
  rintro e w2 ⟨hb2, hp⟩
  have hT2 := hT.belowAll hb2
  have hM2 := hM.belowAll hb2
  have hB2 := hB.trans (hb2.mono hB.size)
  have c0 := hT2.cell 0
  have c1 := hT2.cell 1
  have c2 := hT2.cell 2
  have c3 := hT2.cell 3
  have d0 := hM2.cell 0
  have d1 := hM2.cell 1
  have f0 := hT2.free 0
  have f1 := hT2.free 1
  have f2 := hT2.free 2
  have f3 := hT2.free 3
  have g0 := hM2.free 0
  have g1 := hM2.free 1
  simp at c0 c1 c2 c3 d0 d1
  cases R with
  | bad c a =>
    subst hp
    unfold tok mish
    go_wp2
    obtain ⟨h1, h2, h3⟩ := six hT2 hM2 hB2 (.int .i64 (0 : Nat)) (.string ⟨#[]⟩) (.int .i64 (0 : Nat)) (.int .i64 (0 : Nat)) (.int .i64 c) (.int .i64 a)
    exact bodyPost_ret (out19 h1 h2 rfl rfl) rfl ⟨h3, rfl⟩
  | ok r =>
    obtain ⟨t, k⟩ := r
    subst hp
    unfold tok mish
    go_wp2
    obtain ⟨h1, h2, h3⟩ := six hT2 hM2 hB2 (.int .i64 t.kind) (.string ⟨t.text.toArray⟩) (.int .i64 t.num) (.int .i64 (0 : Nat)) (.int .i64 (0 : Nat)) (.int .i64 (0 : Nat))
    exact bodyPost_ret (out19 h1 h2 rfl rfl) rfl ⟨h3, rfl⟩

set_option maxHeartbeats 4000000 in
set_option maxRecDepth 100000 in
theorem refWordS (s : ByteArray) (i : Nat) (hi : i < s.size) (hs : s.size ≤ 65536) (w : World) (hL : ltr s[i].toNat = false) (hD : dig s[i].toNat = false) (hq : (s[i] == 34) = false) :
    Calls Tryd.prog 19 #[.string s, .int .i64 (i : Int)] w (TokPost (word i (rest s i)) w) := by
  rw [word_other hi hL hD hq]
  obtain ⟨R, hR⟩ : ∃ R, R = sign i (rest s i) := ⟨_, rfl⟩
  rw [← hR]
  have HR := Lib.hid hR
  clear hR
  have hq' := (u8i s[i] 34).trans hq
  change ((s[i].toNat : Int) == 34) = false at hq'
  clear hq
  obtain ⟨hT, hM, hB⟩ := laid34 w 34 #[.int .i64 0, .string ⟨#[]⟩, .int .i64 0, .int .i64 0] #[.int .i64 0, .int .i64 0]
  go_enter Tryd.func19, Tryd.ntmps19
  by_cases hm : i + 1 < s.size
  · have HI := Lib.hid ((congrArg (isIn twos) (piece2 hm)).trans (isIn_of twos [s[i], s[i + 1]]))
    by_cases htw : isIn twos (s.extract i (i + 2)) = true
    · have HQ := Lib.hid (sign_two hm (HI.out.symm.trans htw))
      have HP := Lib.hid (piece2 hm)
      go_wp2_with (first | (go_at_call 22; refine (refTwo _ _).mono ?_; rintro e w1 ⟨rfl, rfl⟩) | (go_at_call 23; refine (refOne _ _).mono ?_; rintro e w1 ⟨rfl, rfl⟩) | (go_at_call 33; refine (refLetter _ _).mono ?_; rintro e w1 ⟨rfl, rfl⟩) | (go_at_call 34; refine (refDigit _ _).mono ?_; rintro e w1 ⟨rfl, rfl⟩))
      obtain ⟨h1, h2, h3⟩ := laid34 w 34 #[.int .i64 4, .string (s.extract i (i + 2)), .int .i64 0, .int .i64 0] #[.int .i64 0, .int .i64 0]
      exact bodyPost_ret (out19 h1 h2 rfl rfl) rfl ⟨h3, by rw [HR.out, HQ.out, HP.out]; rfl⟩
    · have htw' := eq_false_of_ne_true htw
      have HF := Lib.hid (HI.out.symm.trans htw')
      clear htw
      by_cases hone : isOne s[i].toNat = true
      · have HQ := Lib.hid (sign_one2 hm HF.out hone)
        have HP := Lib.hid (piece1 hi)
        go_wp2_with (first | (go_at_call 22; refine (refTwo _ _).mono ?_; rintro e w1 ⟨rfl, rfl⟩) | (go_at_call 23; refine (refOne _ _).mono ?_; rintro e w1 ⟨rfl, rfl⟩) | (go_at_call 33; refine (refLetter _ _).mono ?_; rintro e w1 ⟨rfl, rfl⟩) | (go_at_call 34; refine (refDigit _ _).mono ?_; rintro e w1 ⟨rfl, rfl⟩))
        obtain ⟨h1, h2, h3⟩ := laid34 w 34 #[.int .i64 4, .string (s.extract i (i + 1)), .int .i64 0, .int .i64 0] #[.int .i64 0, .int .i64 0]
        exact bodyPost_ret (out19 h1 h2 rfl rfl) rfl ⟨h3, by rw [HR.out, HQ.out, HP.out]; rfl⟩
      · have hone' := eq_false_of_ne_true hone
        clear hone
        have HQ := Lib.hid (sign_none2 hm HF.out hone')
        go_wp2_with ((first | (go_at_call 22; refine (refTwo _ _).mono ?_; rintro e w1 ⟨rfl, rfl⟩) | (go_at_call 23; refine (refOne _ _).mono ?_; rintro e w1 ⟨rfl, rfl⟩) | (go_at_call 33; refine (refLetter _ _).mono ?_; rintro e w1 ⟨rfl, rfl⟩) | (go_at_call 34; refine (refDigit _ _).mono ?_; rintro e w1 ⟨rfl, rfl⟩) | fail))
        refine (refBad 20 i _).mono ?_
        rintro e w2 ⟨rfl, hb2⟩
        have hT2 := hT.belowAll hb2
        have hM2 := hM.belowAll hb2
        have hB2 := hB.trans (hb2.mono hB.size)
        have c0 := hT2.cell 0
        have c1 := hT2.cell 1
        have c2 := hT2.cell 2
        have c3 := hT2.cell 3
        have d0 := hM2.cell 0
        have d1 := hM2.cell 1
        have f0 := hT2.free 0
        have f1 := hT2.free 1
        have f2 := hT2.free 2
        have f3 := hT2.free 3
        have g0 := hM2.free 0
        have g1 := hM2.free 1
        simp at c0 c1 c2 c3 d0 d1
        unfold mish
        go_wp2
        obtain ⟨h1, h2, h3⟩ := six hT2 hM2 hB2 (.int .i64 0) (.string ⟨#[]⟩) (.int .i64 0) (.int .i64 0) (.int .i64 20) (.int .i64 (i : Nat))
        exact bodyPost_ret (out19 h1 h2 rfl rfl) rfl ⟨h3, by rw [HR.out, HQ.out]; rfl⟩
  · have hm' : decide ((i : Int) + 1 < (s.size : Int)) = false := by simp; omega
    by_cases hone : isOne s[i].toNat = true
    · have HQ := Lib.hid (sign_one1 hi hm hone)
      have HP := Lib.hid (piece1 hi)
      go_wp2_with (first | (go_at_call 22; refine (refTwo _ _).mono ?_; rintro e w1 ⟨rfl, rfl⟩) | (go_at_call 23; refine (refOne _ _).mono ?_; rintro e w1 ⟨rfl, rfl⟩) | (go_at_call 33; refine (refLetter _ _).mono ?_; rintro e w1 ⟨rfl, rfl⟩) | (go_at_call 34; refine (refDigit _ _).mono ?_; rintro e w1 ⟨rfl, rfl⟩))
      obtain ⟨h1, h2, h3⟩ := laid34 w 34 #[.int .i64 4, .string (s.extract i (i + 1)), .int .i64 0, .int .i64 0] #[.int .i64 0, .int .i64 0]
      exact bodyPost_ret (out19 h1 h2 rfl rfl) rfl ⟨h3, by rw [HR.out, HQ.out, HP.out]; rfl⟩
    · have hone' := eq_false_of_ne_true hone
      clear hone
      have HQ := Lib.hid (sign_none1 hi hm hone')
      go_wp2_with ((first | (go_at_call 22; refine (refTwo _ _).mono ?_; rintro e w1 ⟨rfl, rfl⟩) | (go_at_call 23; refine (refOne _ _).mono ?_; rintro e w1 ⟨rfl, rfl⟩) | (go_at_call 33; refine (refLetter _ _).mono ?_; rintro e w1 ⟨rfl, rfl⟩) | (go_at_call 34; refine (refDigit _ _).mono ?_; rintro e w1 ⟨rfl, rfl⟩) | fail))
      refine (refBad 20 i _).mono ?_
      rintro e w2 ⟨rfl, hb2⟩
      have hT2 := hT.belowAll hb2
      have hM2 := hM.belowAll hb2
      have hB2 := hB.trans (hb2.mono hB.size)
      have c0 := hT2.cell 0
      have c1 := hT2.cell 1
      have c2 := hT2.cell 2
      have c3 := hT2.cell 3
      have d0 := hM2.cell 0
      have d1 := hM2.cell 1
      have f0 := hT2.free 0
      have f1 := hT2.free 1
      have f2 := hT2.free 2
      have f3 := hT2.free 3
      have g0 := hM2.free 0
      have g1 := hM2.free 1
      simp at c0 c1 c2 c3 d0 d1
      unfold mish
      go_wp2
      obtain ⟨h1, h2, h3⟩ := six hT2 hM2 hB2 (.int .i64 0) (.string ⟨#[]⟩) (.int .i64 0) (.int .i64 0) (.int .i64 20) (.int .i64 (i : Nat))
      exact bodyPost_ret (out19 h1 h2 rfl rfl) rfl ⟨h3, by rw [HR.out, HQ.out]; rfl⟩
theorem refWord (s : ByteArray) (i : Nat) (hi : i < s.size) (hs : s.size ≤ 65536) (w : World) : Calls Tryd.prog 19 #[.string s, .int .i64 (i : Int)] w (TokPost (word i (rest s i)) w) := by
  cases hL : ltr s[i].toNat with
  | true => exact refWordL s i hi hs w hL
  | false =>
    cases hD : dig s[i].toNat with
    | true => exact refWordD s i hi hs w hL hD
    | false =>
      cases hq : (s[i] == 34) with
      | true => exact refWordQ s i hi hs w hL hD hq
      | false => exact refWordS s i hi hs w hL hD hq
end Go.Proofs.YtndcbbhfhcjadaaDoor
