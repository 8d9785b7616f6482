/- Bytes as numbers: the document's reader (printed by mkrdec.py). -/
import Derived.Test.YtcedenoicmpjmaaNums
namespace Go.Proofs.Ytcedenoicmpjmaa
open Go.RowKit
set_option linter.unusedVariables false
set_option linter.unusedSimpArgs false

theorem sum_fit {m y k : Nat} (h : k ≤ 9) (hm : m < 128 ^ k) (hy : y ≤ 127 ∧ (k = 9 → y ≤ 1)) : m + y * 128 ^ k < 18446744073709551616 := by
  have h1 : k = 0 ∨ k = 1 ∨ k = 2 ∨ k = 3 ∨ k = 4 ∨ k = 5 ∨ k = 6 ∨ k = 7 ∨ k = 8 ∨ k = 9 := by omega
  rcases h1 with rfl | rfl | rfl | rfl | rfl | rfl | rfl | rfl | rfl | rfl <;> simp at hy hm ⊢ <;> omega
set_option maxHeartbeats 1000000 in
set_option maxRecDepth 100000 in
theorem refDecFn {w : World} {B at_ : Nat} {s : ByteArray} (h : Holds w B 108 [.string s, .int .i64 (at_ : Int)]) (ha : at_ ≤ s.size) (hs : s.size ≤ 1048576) :
    Calls Try.prog 46 #[.pointer (some ⟨B, 0, none⟩)] w (DecPost (dec (s.data.toList.drop at_)) w) := by
  have H := Lib.hid h
  obtain ⟨D, hD⟩ : ∃ D, dec (s.data.toList.drop at_) = D := ⟨_, rfl⟩
  rw [hD]
  have HD := Lib.hid hD
  clear h hD
  go_enter Try.func46, Try.ntmps46
  go_wp2
  go_loopw [5, 6, 7] (fun x u y wr => ∃ (k m p : Nat), x = .int .u64 (m : Int) ∧ u = .int .u64 (p : Int) ∧ y = .int .i64 (k : Int) ∧ k ≤ 9 ∧ at_ + k ≤ s.size ∧ Hid (128 ^ k = p) ∧ Hid (m < 128 ^ k) ∧ Hid (decF (10 - k) k m (s.data.toList.drop (at_ + k)) = D) ∧ Hid (Below w.heap.size w wr)) (fun _ _ y _ => 20 - (intOf y).toNat)
  case atStart => exact ⟨0, 0, 1, rfl, rfl, rfl, by omega, by omega, rfl, Nat.one_pos, HD.out, Below.refl _ _⟩
  case round =>
    obtain ⟨k, m, p, hx, hu, hy, hk, hak, HP, HM, HX, HB⟩ := hrel
    subst hx hu hy
    have HH := H.out.belowAll HB.out
    have e0 := HH.cell 0
    have e1 := HH.cell 1
    simp only [List.getElem?_cons_zero, List.getElem?_cons_succ] at e0 e1
    have d10 : decide ((k : Int) < 10) = true := decide_eq_true (by omega)
    have hw1 : IntKind.i64.wrap ((at_ : Int) + (k : Int)) = (at_ : Int) + (k : Int) := by rw [IntKind.wrap_i64]; omega
    obtain ⟨f, hfu⟩ : ∃ f, 10 - k = f + 1 := ⟨9 - k, by omega⟩
    have HBD : Hid (∀ q1 : Nat, Below w.heap.size w (wr.drewN q1)) := fun q1 => ⟨HB.out.os, HB.out.tape, HB.out.output, HB.out.size, HB.out.block⟩
    by_cases hend : at_ + k = s.size
    · have d1 : ((at_ : Int) + (k : Int) == (s.size : Int)) = true := by simp; omega
      have hf := HX.out
      rw [hfu, List.drop_of_length_le (by rw [hend]; exact Nat.le_of_eq (by simp)), decF] at hf
      have HF : Hid (∀ q1, DecPost D w (.returned (.tuple #[.int .u64 0, .int .i64 0, .int .i64 10])) (wr.drewN q1)) := by
        show ∀ q1, DecPost _ _ _ _
        rw [← hf]
        exact fun q1 => ⟨HBD.out q1, rfl⟩
      clear hf HX HM HH hfu
      go_wp2
      go_quiet (fail)
      go_wp2
      go_ret3
      exact HF.out _
    · have d1 : ((at_ : Int) + (k : Int) == (s.size : Int)) = false := by simp; omega
      have hlt : at_ + k < s.size := by omega
      have hlt2 : ((at_ : Int) + (k : Int)) < (s.size : Int) := by omega
      have h0 : (0 : Int) ≤ (at_ : Int) + (k : Int) := by omega
      have ht : ((at_ : Int) + (k : Int)).toNat = at_ + k := by omega
      have hf := HX.out
      have hdl : at_ + k < s.data.toList.length := by simpa using hlt
      obtain ⟨c, hc⟩ : ∃ c, (s[at_ + k]'hlt).toNat = c := ⟨_, rfl⟩
      have hc2 : (s.data.toList[at_ + k]'hdl).toNat = c := by rw [← hc]; rfl
      have hc256 : c < 256 := by rw [← hc]; exact UInt8.toNat_lt _
      rw [hfu, List.drop_eq_getElem_cons hdl, decF, hc2] at hf
      have HFF := Lib.hid hf
      clear HX HH hf hc2
      go_wp2
      go_quiet (fail)
      go_wp2
      go_quiet (fail)
      clear e0 e1 hc hlt2 h0 ht d1 hw1
      by_cases hbad : k = 9 ∧ 1 < c
      · have d2 : ((k : Int) == 9) = true := by simp; omega
        have d3 : decide ((1 : Int) < (c : Int)) = true := decide_eq_true (by omega)
        have hf := HFF.out
        rw [if_pos hbad] at hf
        have HF : Hid (∀ q1, DecPost D w (.returned (.tuple #[.int .u64 0, .int .i64 0, .int .i64 11])) (wr.drewN q1)) := by
          show ∀ q1, DecPost _ _ _ _
          rw [← hf]
          exact fun q1 => ⟨HBD.out q1, rfl⟩
        clear hf HFF HM hbad
        go_wp2
        go_ret3
        exact HF.out _
      · obtain ⟨y, hy⟩ : ∃ y, c % 128 = y := ⟨_, rfl⟩
        obtain ⟨z, hz2⟩ : ∃ z, y * 128 ^ k = z := ⟨_, rfl⟩
        obtain ⟨n2, hn2⟩ : ∃ n2, m + z = n2 := ⟨_, rfl⟩
        have hzl : z < 18446744073709551616 := by
          rw [← hz2]
          exact pow_fit (by omega) (by omega)
        have htm : Int.tmod (c : Int) 128 = (y : Int) := by rw [Int.tmod_eq_emod_of_nonneg (by omega)]; omega
        have hcu : IntKind.u64.wrap (y : Int) = (y : Int) := by rw [IntKind.wrap_u64]; omega
        have hyp : y * p = z := by rw [← HP.out, hz2]
        have hmul : IntKind.u64.wrap ((y : Int) * (p : Int)) = (z : Int) := by
          have : (y : Int) * (p : Int) = ((y * p : Nat) : Int) := by push_cast; rfl
          rw [this, hyp, IntKind.wrap_u64]; omega
        have hn2l : n2 < 18446744073709551616 := by
          rw [← hn2, ← hz2]
          exact sum_fit (by omega) HM.out (by omega)
        have hadd : IntKind.u64.wrap ((m : Int) + (z : Int)) = (n2 : Int) := by rw [IntKind.wrap_u64]; omega
        have hk1 : IntKind.i64.wrap ((k : Int) + 1) = (k : Int) + 1 := by rw [IntKind.wrap_i64]; omega
        have hn3 : c < 128 → m + c * 128 ^ k = n2 := fun h => by rw [← hn2, ← hz2, ← hy, Nat.mod_eq_of_lt h]
        have hn4 : m + c % 128 * 128 ^ k = n2 := by rw [← hn2, ← hz2, ← hy]
        have HZ := Lib.hid (And.intro hn2 (And.intro hz2 hy))
        clear hzl hn2 hz2 hy hyp hn2l
        by_cases h9 : k = 9
        · have d2 : ((k : Int) == 9) = true := by simp; omega
          have d20 : decide ((1 : Int) < (c : Int)) = false := decide_eq_false (by omega)
          clear h9
          have hf := HFF.out
          rw [if_neg hbad] at hf
          by_cases hlt7 : c < 128
          · have d3 : decide ((c : Int) < 128) = true := decide_eq_true (by omega)
            by_cases hz : c = 0 ∧ 0 < k
            · have hc0 : ((c : Int) == 0) = true := by simp; omega
              have hk0 : 0 < k := hz.2
              rw [if_pos (by omega), if_pos (by omega)] at hf
              have HF : Hid (∀ q1, DecPost D w (.returned (.tuple #[.int .u64 0, .int .i64 0, .int .i64 11])) (wr.drewN q1)) := by
                show ∀ q1, DecPost _ _ _ _
                rw [← hf]
                exact fun q1 => ⟨HBD.out q1, rfl⟩
              clear hf HM hz hlt7 hbad hn3 hn4 HFF
              go_wp2
              go_ret3
              exact HF.out _
            · rw [if_pos (by omega), if_neg (by omega)] at hf
              rw [hn3 hlt7] at hf
              have HF : Hid (∀ q1, DecPost D w (.returned (.tuple #[.int .u64 (n2 : Int), .int .i64 ((k : Int) + 1), .int .i64 0])) (wr.drewN q1)) := by
                show ∀ q1, DecPost _ _ _ _
                rw [← hf]
                exact fun q1 => ⟨HBD.out q1, by show _ = Ending.returned (.tuple #[.int .u64 (n2 : Int), .int .i64 ((k + 1 : Nat) : Int), .int .i64 0]); simp⟩
              have hok : ((c : Int) == 0) = false ∨ ((c : Int) == 0) = true ∧ ¬ 0 < k := by
                by_cases h0 : c = 0
                · exact .inr ⟨by simp; omega, by omega⟩
                · exact .inl (by simp; omega)
              clear hf HM hz hlt7 hbad hn3 hn4 HFF
              rcases hok with d4 | ⟨d4, d5⟩
              · go_wp2
                go_ret3
                exact HF.out _
              · go_wp2
                go_ret3
                exact HF.out _
          · have d3 : decide ((c : Int) < 128) = false := decide_eq_false (by omega)
            rw [if_neg (by omega)] at hf
            rw [hn4] at hf
            have HX2 := Lib.hid hf
            have hk8 : k ≤ 8 := by omega
            have HM2 : Hid (n2 < 128 ^ (k + 1)) := by
              show n2 < 128 ^ (k + 1)
              obtain ⟨hn2, hz2, hy⟩ := HZ.out
              rw [← hn2, ← hz2, Nat.pow_succ]
              have h1 := HM.out
              have h2 : y * 128 ^ k ≤ 127 * 128 ^ k := Nat.mul_le_mul_right _ (by omega)
              omega
            obtain ⟨p2, hp2⟩ : ∃ p2, p * 128 = p2 := ⟨_, rfl⟩
            have HP2 : Hid (128 ^ (k + 1) = p2) := by show _ = _; rw [← hp2, Nat.pow_succ, HP.out]
            have hpw : IntKind.u64.wrap ((p : Int) * 128) = (p2 : Int) := by
              have h1 : p2 ≤ 128 ^ 9 := by rw [← HP2.out]; exact Nat.pow_le_pow_right (by omega) (by omega)
              have h9 : (128 : Nat) ^ 9 = 9223372036854775808 := by decide
              rw [IntKind.wrap_u64]; omega
            clear hf HM hbad hn3 hn4 HFF hp2
            go_wp2
            refine ⟨⟨k + 1, n2, p2, rfl, rfl, by simp, by omega, by omega, HP2, HM2, ?_, HBD.out _⟩, ?_⟩
            · have h := HX2.out
              show decF (10 - (k + 1)) (k + 1) n2 _ = D
              rw [show 10 - (k + 1) = f by omega]
              exact h
            · simp [intOf]
              omega
        · have d2 : ((k : Int) == 9) = false := by simp; omega
          clear h9
          have hf := HFF.out
          rw [if_neg hbad] at hf
          by_cases hlt7 : c < 128
          · have d3 : decide ((c : Int) < 128) = true := decide_eq_true (by omega)
            by_cases hz : c = 0 ∧ 0 < k
            · have hc0 : ((c : Int) == 0) = true := by simp; omega
              have hk0 : 0 < k := hz.2
              rw [if_pos (by omega), if_pos (by omega)] at hf
              have HF : Hid (∀ q1, DecPost D w (.returned (.tuple #[.int .u64 0, .int .i64 0, .int .i64 11])) (wr.drewN q1)) := by
                show ∀ q1, DecPost _ _ _ _
                rw [← hf]
                exact fun q1 => ⟨HBD.out q1, rfl⟩
              clear hf HM hz hlt7 hbad hn3 hn4 HFF
              go_wp2
              go_ret3
              exact HF.out _
            · rw [if_pos (by omega), if_neg (by omega)] at hf
              rw [hn3 hlt7] at hf
              have HF : Hid (∀ q1, DecPost D w (.returned (.tuple #[.int .u64 (n2 : Int), .int .i64 ((k : Int) + 1), .int .i64 0])) (wr.drewN q1)) := by
                show ∀ q1, DecPost _ _ _ _
                rw [← hf]
                exact fun q1 => ⟨HBD.out q1, by show _ = Ending.returned (.tuple #[.int .u64 (n2 : Int), .int .i64 ((k + 1 : Nat) : Int), .int .i64 0]); simp⟩
              have hok : ((c : Int) == 0) = false ∨ ((c : Int) == 0) = true ∧ ¬ 0 < k := by
                by_cases h0 : c = 0
                · exact .inr ⟨by simp; omega, by omega⟩
                · exact .inl (by simp; omega)
              clear hf HM hz hlt7 hbad hn3 hn4 HFF
              rcases hok with d4 | ⟨d4, d5⟩
              · go_wp2
                go_ret3
                exact HF.out _
              · go_wp2
                go_ret3
                exact HF.out _
          · have d3 : decide ((c : Int) < 128) = false := decide_eq_false (by omega)
            rw [if_neg (by omega)] at hf
            rw [hn4] at hf
            have HX2 := Lib.hid hf
            have hk8 : k ≤ 8 := by omega
            have HM2 : Hid (n2 < 128 ^ (k + 1)) := by
              show n2 < 128 ^ (k + 1)
              obtain ⟨hn2, hz2, hy⟩ := HZ.out
              rw [← hn2, ← hz2, Nat.pow_succ]
              have h1 := HM.out
              have h2 : y * 128 ^ k ≤ 127 * 128 ^ k := Nat.mul_le_mul_right _ (by omega)
              omega
            obtain ⟨p2, hp2⟩ : ∃ p2, p * 128 = p2 := ⟨_, rfl⟩
            have HP2 : Hid (128 ^ (k + 1) = p2) := by show _ = _; rw [← hp2, Nat.pow_succ, HP.out]
            have hpw : IntKind.u64.wrap ((p : Int) * 128) = (p2 : Int) := by
              have h1 : p2 ≤ 128 ^ 9 := by rw [← HP2.out]; exact Nat.pow_le_pow_right (by omega) (by omega)
              have h9 : (128 : Nat) ^ 9 = 9223372036854775808 := by decide
              rw [IntKind.wrap_u64]; omega
            clear hf HM hbad hn3 hn4 HFF hp2
            go_wp2
            refine ⟨⟨k + 1, n2, p2, rfl, rfl, by simp, by omega, by omega, HP2, HM2, ?_, HBD.out _⟩, ?_⟩
            · have h := HX2.out
              show decF (10 - (k + 1)) (k + 1) n2 _ = D
              rw [show 10 - (k + 1) = f by omega]
              exact h
            · simp [intOf]
              omega
end Go.Proofs.Ytcedenoicmpjmaa
