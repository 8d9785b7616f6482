/- Bytes as numbers: plain; the walks of the readers. -/
import Derived.Test.YtpednhcfkjjcpaaMg1
import Derived.Laws.Bits64b
namespace Go.Proofs.Ytpednhcfkjjcpaa
open Go.RowKit
set_option linter.unusedVariables false
set_option linter.unusedSimpArgs false

inductive Dn where
  | cut
  | form
  | ok (n k : Nat)
/-- The number at the head of bytes: k bytes of it, of value n, have been read. -/
def decF : Nat → Nat → Nat → Bs → Dn
  | 0, _, _, _ => .form
  | f + 1, k, n, l => match l with
    | [] => .cut
    | x :: r => if k = 9 ∧ 1 < x.toNat then .form
      else if x.toNat < 128 then (if x.toNat = 0 ∧ 0 < k then .form else .ok (n + x.toNat * 128 ^ k) (k + 1))
      else decF f (k + 1) (n + x.toNat % 128 * 128 ^ k) r
def dec (l : Bs) : Dn := decF 10 0 0 l
def DecPost (d : Dn) (w : World) (e : Ending) (w' : World) : Prop :=
  Below w.heap.size w w' ∧ match d with
  | .cut => e = .returned (.tuple #[.int .u64 0, .int .i64 0, .int .i64 10])
  | .form => e = .returned (.tuple #[.int .u64 0, .int .i64 0, .int .i64 11])
  | .ok n k => e = .returned (.tuple #[.int .u64 (n : Int), .int .i64 (k : Int), .int .i64 0])
theorem pow_fit {y k : Nat} (h : k ≤ 9) (hy : y ≤ 127 ∧ (k = 9 → y ≤ 1)) : y * 128 ^ k < 18446744073709551616 := by
  have h1 : k = 0 ∨ k = 1 ∨ k = 2 ∨ k = 3 ∨ k = 4 ∨ k = 5 ∨ k = 6 ∨ k = 7 ∨ k = 8 ∨ k = 9 := by omega
  rcases h1 with rfl | rfl | rfl | rfl | rfl | rfl | rfl | rfl | rfl | rfl <;> simp at hy ⊢ <;> omega
theorem or_add {m y k : Nat} (hm : m < 128 ^ k) (hy : y * 128 ^ k < 18446744073709551616) (hm2 : m < 18446744073709551616) : bits .or .u64 (m : Int) ((y * 128 ^ k : Nat) : Int) = ((m + y * 128 ^ k : Nat) : Int) := by
  rw [bits_or_u64_nat _ _ hm2 hy]
  congr 1
  have h128 : (128 : Nat) ^ k = 2 ^ (7 * k) := by rw [Nat.pow_mul]
  rw [h128] at hm ⊢
  have := Nat.shiftLeft_add_eq_or_of_lt hm y
  rw [Nat.shiftLeft_eq] at this
  rw [Nat.or_comm, ← this, Nat.add_comm]
set_option maxHeartbeats 1000000 in
set_option maxRecDepth 100000 in
theorem decFn {w : World} {B at_ : Nat} {s : ByteArray} (h : Holds w B 180 [.string s, .int .i64 (at_ : Int)]) (ha : at_ ≤ s.size) (hs : s.size ≤ 1048576) :
    Calls Try.prog 89 #[.pointer (some ⟨B, 0, none⟩)] w (DecPost (dec (s.data.toList.drop at_)) w) := by
  have H := Lib.hid h
  obtain ⟨D, hD⟩ : ∃ D, dec (s.data.toList.drop at_) = D := ⟨_, rfl⟩
  rw [hD]
  have HD := Lib.hid hD
  clear h hD
  go_enter Try.func89, Try.ntmps89
  go_wp2
  go_step3
  go_wp2
  go_step3
  go_wp2
  go_loopw [2, 3] (fun x y wr => ∃ (k m : Nat), x = .int .u64 (m : Int) ∧ y = .int .i64 (k : Int) ∧ k ≤ 10 ∧ at_ + k ≤ s.size ∧ Hid (m < 128 ^ k) ∧ Hid (decF (10 - k) k m (s.data.toList.drop (at_ + k)) = D) ∧ Hid (Below w.heap.size w wr)) (fun _ y _ => 20 - (intOf y).toNat)
  case atStart => exact ⟨0, 0, rfl, rfl, by omega, by omega, Nat.one_pos, HD.out, Below.refl _ _⟩
  case round =>
    obtain ⟨k, m, hx, hy, hk, hak, HM, HX, HB⟩ := hrel
    subst hx hy
    have HH := H.out.belowAll HB.out
    have e0 := HH.cell 0
    have e1 := HH.cell 1
    simp only [List.getElem?_cons_zero, List.getElem?_cons_succ] at e0 e1
    by_cases h10 : k = 10
    · subst h10
      have hf := HX.out
      rw [show (10 : Nat) - 10 = 0 from rfl, decF] at hf
      have HF : Hid (DecPost D w (.returned (.tuple #[.int .u64 0, .int .i64 0, .int .i64 11])) (wr)) := by
        show DecPost _ _ _ _
        rw [← hf]
        exact ⟨HB.out, rfl⟩
      clear hf HX HM HH e0 e1
      go_wp2
      rw [Exit.noGoto_ret]
      go_ret3
      exact HF.out
    · have d10 : ((k : Int) == 10) = false := by simp; omega
      have hw1 : IntKind.i64.wrap ((at_ : Int) + (k : Int)) = (at_ : Int) + (k : Int) := by rw [IntKind.wrap_i64]; omega
      obtain ⟨f, hfu⟩ : ∃ f, 10 - k = f + 1 := ⟨9 - k, by omega⟩
      by_cases hend : at_ + k = s.size
      · have d1 : ((at_ : Int) + (k : Int) == (s.size : Int)) = true := by simp; omega
        have hf := HX.out
        rw [hfu, List.drop_of_length_le (by rw [hend]; exact Nat.le_of_eq (by simp)), decF] at hf
        have HFF := Lib.hid hf
        clear HX HM HH hf hfu
        go_wp2
        go_quiet (fail)
        have HBD : Hid (∀ q1 : Nat, Below w.heap.size w (wr.drewN q1)) := fun q1 => ⟨HB.out.os, HB.out.tape, HB.out.output, HB.out.size, HB.out.block⟩
        have hf := HFF.out
        have HF : Hid (∀ q1, DecPost D w (.returned (.tuple #[.int .u64 0, .int .i64 0, .int .i64 10])) (wr.drewN q1)) := by
          show ∀ q1, DecPost _ _ _ _
          rw [← hf]
          exact fun q1 => ⟨HBD.out q1, rfl⟩
        clear hf HFF
        go_wp2
        rw [Exit.noGoto_ret]
        go_ret3
        exact HF.out _
      · have d1 : ((at_ : Int) + (k : Int) == (s.size : Int)) = false := by simp; omega
        have hlt : at_ + k < s.size := by omega
        have hlt2 : ((at_ : Int) + (k : Int)) < (s.size : Int) := by omega
        have h0 : (0 : Int) ≤ (at_ : Int) + (k : Int) := by omega
        have ht : ((at_ : Int) + (k : Int)).toNat = at_ + k := by omega
        have hf := HX.out
        have hdl : at_ + k < s.data.toList.length := by simpa using hlt
        obtain ⟨c, hc⟩ : ∃ c, (s[at_ + k]'hlt).toNat = c := ⟨_, rfl⟩
        have hc2 : (s.data.toList[at_ + k]'hdl).toNat = c := by rw [← hc]; rfl
        have hc256 : c < 256 := by rw [← hc]; exact UInt8.toNat_lt _
        rw [hfu, List.drop_eq_getElem_cons hdl, decF, hc2] at hf
        have HFF := Lib.hid hf
        clear HX HH hf hc2
        go_wp2
        go_quiet (fail)
        go_wp2
        go_quiet (fail)
        clear e0 e1 hc hlt2 h0 ht d1 hw1
        have HBD : Hid (∀ q1 : Nat, Below w.heap.size w (wr.drewN q1)) := fun q1 => ⟨HB.out.os, HB.out.tape, HB.out.output, HB.out.size, HB.out.block⟩
        have hw2 : IntKind.u64.wrap (c : Int) = (c : Int) := by rw [IntKind.wrap_u64]; omega
        by_cases hbad : k = 9 ∧ 1 < c
        · have d2 : ((k : Int) == 9) = true := by simp; omega
          have d3 : decide ((1 : Int) < (c : Int)) = true := decide_eq_true (by omega)
          have hf := HFF.out
          rw [if_pos hbad] at hf
          have HF : Hid (∀ q1, DecPost D w (.returned (.tuple #[.int .u64 0, .int .i64 0, .int .i64 11])) (wr.drewN q1)) := by
            show ∀ q1, DecPost _ _ _ _
            rw [← hf]
            exact fun q1 => ⟨HBD.out q1, rfl⟩
          clear hf HFF HM hbad
          go_wp2
          rw [Exit.noGoto_ret]
          go_ret3
          exact HF.out _
        · have hf := HFF.out
          rw [if_neg hbad] at hf
          obtain ⟨y, hy⟩ : ∃ y, c % 128 = y := ⟨_, rfl⟩
          obtain ⟨z, hz2⟩ : ∃ z, y * 128 ^ k = z := ⟨_, rfl⟩
          obtain ⟨n2, hn2⟩ : ∃ n2, m + z = n2 := ⟨_, rfl⟩
          have hzl : z < 18446744073709551616 := by
            rw [← hz2]
            exact pow_fit (by omega) (by omega)
          have hml : m < 18446744073709551616 := Nat.lt_of_lt_of_le HM.out (Nat.le_trans (Nat.pow_le_pow_right (by omega) (show k ≤ 9 by omega)) (by decide))
          have hor : bits .or .u64 (m : Int) (z : Int) = (n2 : Int) := by
            rw [← hn2, ← hz2]
            exact or_add HM.out (by rw [hz2]; exact hzl) hml
          have htm : Int.tmod (c : Int) 128 = (y : Int) := by rw [Int.tmod_eq_emod_of_nonneg (by omega)]; omega
          have hw7 : IntKind.i64.wrap (7 * (k : Int)) = 7 * (k : Int) := by rw [IntKind.wrap_i64]; omega
          have hsh : IntKind.u64.wrap ((y : Int) * 2 ^ (7 * (k : Int)).toNat) = (z : Int) := by
            rw [IntKind.wrap_u64, show (7 * (k : Int)).toNat = 7 * k by omega, Int.pow_mul]
            have : (y : Int) * (2 ^ 7) ^ k = ((y * 128 ^ k : Nat) : Int) := by push_cast; rfl
            rw [this, hz2]
            omega
          have hk1 : IntKind.i64.wrap ((k : Int) + 1) = (k : Int) + 1 := by rw [IntKind.wrap_i64]; omega
          have hn3 : c < 128 → m + c * 128 ^ k = n2 := fun h => by rw [← hn2, ← hz2, ← hy, Nat.mod_eq_of_lt h]
          have hn4 : m + c % 128 * 128 ^ k = n2 := by rw [← hn2, ← hz2, ← hy]
          have HZ := Lib.hid (And.intro hn2 (And.intro hz2 hy))
          clear hml hzl hn2 hz2 hy
          by_cases h9 : k = 9
          · have d2 : ((k : Int) == 9) = true := by simp; omega
            have d20 : decide ((1 : Int) < (c : Int)) = false := decide_eq_false (by omega)
            clear h9
            have hf := HFF.out
            rw [if_neg hbad] at hf
            by_cases hlt7 : c < 128
            · have d3 : decide ((c : Int) < 128) = true := decide_eq_true (by omega)
              by_cases hz : c = 0 ∧ 0 < k
              · have hc0 : ((c : Int) == 0) = true := by simp; omega
                have hk0 : decide ((1 : Int) < (k : Int) + 1) = true := decide_eq_true (by omega)
                rw [if_pos (by omega), if_pos (by omega)] at hf
                have HF : Hid (∀ q1, DecPost D w (.returned (.tuple #[.int .u64 0, .int .i64 0, .int .i64 11])) (wr.drewN q1)) := by
                  show ∀ q1, DecPost _ _ _ _
                  rw [← hf]
                  exact fun q1 => ⟨HBD.out q1, rfl⟩
                clear hf HM hz hlt7 hbad hn3 hn4 HFF
                go_wp2
                rw [Exit.noGoto_ret]
                go_ret3
                exact HF.out _
              · rw [if_pos (by omega), if_neg (by omega)] at hf
                rw [hn3 hlt7] at hf
                have HF : Hid (∀ q1, DecPost D w (.returned (.tuple #[.int .u64 (n2 : Int), .int .i64 ((k : Int) + 1), .int .i64 0])) (wr.drewN q1)) := by
                  show ∀ q1, DecPost _ _ _ _
                  rw [← hf]
                  exact fun q1 => ⟨HBD.out q1, by show _ = Ending.returned (.tuple #[.int .u64 (n2 : Int), .int .i64 ((k + 1 : Nat) : Int), .int .i64 0]); simp⟩
                have hok : ((c : Int) == 0) = false ∨ ((c : Int) == 0) = true ∧ decide ((1 : Int) < (k : Int) + 1) = false := by
                  by_cases h0 : c = 0
                  · exact .inr ⟨by simp; omega, decide_eq_false (by omega)⟩
                  · exact .inl (by simp; omega)
                clear hf HM hz hlt7 hbad hn3 hn4 HFF
                rcases hok with d4 | ⟨d4, d5⟩
                · go_wp2
                  rw [Exit.noGoto_ret]
                  go_ret3
                  exact HF.out _
                · go_wp2
                  rw [Exit.noGoto_ret]
                  go_ret3
                  exact HF.out _
            · have d3 : decide ((c : Int) < 128) = false := decide_eq_false (by omega)
              rw [if_neg (by omega)] at hf
              rw [hn4] at hf
              have HX2 := Lib.hid hf
              have HM2 : Hid (n2 < 128 ^ (k + 1)) := by
                show n2 < 128 ^ (k + 1)
                obtain ⟨hn2, hz2, hy⟩ := HZ.out
                rw [← hn2, ← hz2, Nat.pow_succ]
                have h1 := HM.out
                have h2 : y * 128 ^ k ≤ 127 * 128 ^ k := Nat.mul_le_mul_right _ (by omega)
                omega
              clear hf HM hbad hn3 hn4 HFF
              go_wp2
              refine ⟨⟨k + 1, n2, rfl, by simp, by omega, by omega, HM2, ?_, HBD.out _⟩, ?_⟩
              · have h := HX2.out
                show decF (10 - (k + 1)) (k + 1) n2 _ = D
                rw [show 10 - (k + 1) = f by omega]
                exact h
              · simp [intOf]
                omega
          · have d2 : ((k : Int) == 9) = false := by simp; omega
            clear h9
            have hf := HFF.out
            rw [if_neg hbad] at hf
            by_cases hlt7 : c < 128
            · have d3 : decide ((c : Int) < 128) = true := decide_eq_true (by omega)
              by_cases hz : c = 0 ∧ 0 < k
              · have hc0 : ((c : Int) == 0) = true := by simp; omega
                have hk0 : decide ((1 : Int) < (k : Int) + 1) = true := decide_eq_true (by omega)
                rw [if_pos (by omega), if_pos (by omega)] at hf
                have HF : Hid (∀ q1, DecPost D w (.returned (.tuple #[.int .u64 0, .int .i64 0, .int .i64 11])) (wr.drewN q1)) := by
                  show ∀ q1, DecPost _ _ _ _
                  rw [← hf]
                  exact fun q1 => ⟨HBD.out q1, rfl⟩
                clear hf HM hz hlt7 hbad hn3 hn4 HFF
                go_wp2
                rw [Exit.noGoto_ret]
                go_ret3
                exact HF.out _
              · rw [if_pos (by omega), if_neg (by omega)] at hf
                rw [hn3 hlt7] at hf
                have HF : Hid (∀ q1, DecPost D w (.returned (.tuple #[.int .u64 (n2 : Int), .int .i64 ((k : Int) + 1), .int .i64 0])) (wr.drewN q1)) := by
                  show ∀ q1, DecPost _ _ _ _
                  rw [← hf]
                  exact fun q1 => ⟨HBD.out q1, by show _ = Ending.returned (.tuple #[.int .u64 (n2 : Int), .int .i64 ((k + 1 : Nat) : Int), .int .i64 0]); simp⟩
                have hok : ((c : Int) == 0) = false ∨ ((c : Int) == 0) = true ∧ decide ((1 : Int) < (k : Int) + 1) = false := by
                  by_cases h0 : c = 0
                  · exact .inr ⟨by simp; omega, decide_eq_false (by omega)⟩
                  · exact .inl (by simp; omega)
                clear hf HM hz hlt7 hbad hn3 hn4 HFF
                rcases hok with d4 | ⟨d4, d5⟩
                · go_wp2
                  rw [Exit.noGoto_ret]
                  go_ret3
                  exact HF.out _
                · go_wp2
                  rw [Exit.noGoto_ret]
                  go_ret3
                  exact HF.out _
            · have d3 : decide ((c : Int) < 128) = false := decide_eq_false (by omega)
              rw [if_neg (by omega)] at hf
              rw [hn4] at hf
              have HX2 := Lib.hid hf
              have HM2 : Hid (n2 < 128 ^ (k + 1)) := by
                show n2 < 128 ^ (k + 1)
                obtain ⟨hn2, hz2, hy⟩ := HZ.out
                rw [← hn2, ← hz2, Nat.pow_succ]
                have h1 := HM.out
                have h2 : y * 128 ^ k ≤ 127 * 128 ^ k := Nat.mul_le_mul_right _ (by omega)
                omega
              clear hf HM hbad hn3 hn4 HFF
              go_wp2
              refine ⟨⟨k + 1, n2, rfl, by simp, by omega, by omega, HM2, ?_, HBD.out _⟩, ?_⟩
              · have h := HX2.out
                show decF (10 - (k + 1)) (k + 1) n2 _ = D
                rw [show 10 - (k + 1) = f by omega]
                exact h
              · simp [intOf]
                omega
end Go.Proofs.Ytpednhcfkjjcpaa
