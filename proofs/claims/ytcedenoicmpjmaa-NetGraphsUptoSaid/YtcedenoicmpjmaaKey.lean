/- A node's name as bytes: plain. -/
import Derived.Test.YtcedenoicmpjmaaEx
namespace Go.Proofs.Ytcedenoicmpjmaa
open Go.RowKit
set_option linter.unusedVariables false
set_option linter.unusedSimpArgs false

theorem u8_toNat {n : Nat} (h : n < 256) : (UInt8.ofNat n).toNat = n := by
  have := u8_of h
  omega
theorem decF_enc : ∀ (j m k n f : Nat) (r : Bs), m < 128 ^ (j + 1) → k + j < 9 → j < f → (k = 0 ∨ 0 < m) → decF f k n (enc m ++ r) = .ok (n + m * 128 ^ k) (k + (enc m).length)
  | j, m, k, n, 0, r, _, _, hf, _ => absurd hf (Nat.not_lt_zero _)
  | j, m, k, n, f + 1, r, hm, hk, hf, h0 => by
    by_cases hs : m < 128
    · rw [enc_lt hs]
      simp only [List.cons_append, List.nil_append, List.length_cons, List.length_nil]
      rw [decF]
      simp only [u8_toNat (n := m) (by omega)]
      rw [if_neg (by omega), if_pos hs, if_neg (by omega)]
    · match j, hm, hk, hf with
      | 0, hm, _, _ => exact absurd (by simpa using hm) hs
      | j + 1, hm, hk, hf =>
        rw [enc_ge hs]
        simp only [List.cons_append, List.length_cons]
        rw [decF]
        simp only [u8_toNat (n := 128 + m % 128) (by omega)]
        rw [if_neg (by omega), if_neg (by omega)]
        have hd : m / 128 < 128 ^ (j + 1) := by rw [Nat.div_lt_iff_lt_mul (by omega)]; rw [Nat.pow_succ] at hm; exact hm
        rw [decF_enc j (m / 128) (k + 1) _ f r hd (by omega) (by omega) (.inr (by omega))]
        have e1 : (128 + m % 128) % 128 = m % 128 := by omega
        have e2 : m = m % 128 + 128 * (m / 128) := by omega
        have e3 : m * 128 ^ k = m % 128 * 128 ^ k + m / 128 * 128 ^ (k + 1) := by
          rw [Nat.pow_succ, Nat.mul_comm (128 ^ k) 128, ← Nat.mul_assoc, ← Nat.add_mul, Nat.mul_comm (m / 128) 128, ← e2]
        rw [e1, e3]
        congr 1 <;> omega
theorem dec_enc {m : Nat} (h : m ≤ 20000) (r : Bs) : dec (enc m ++ r) = .ok m (enc m).length := by
  unfold dec
  rw [decF_enc 2 m 0 0 10 r (by omega) (by omega) (by omega) (.inl rfl)]
  simp
theorem nums_enc {m : Nat} (h : m ≤ 20000) : nums 20000 1 (enc m) = some ([m], []) := by
  have := dec_enc h []
  rw [List.append_nil] at this
  rw [nums, this]
  simp only
  rw [if_neg (by omega), List.drop_length, nums]
theorem nodeOf_enc {N : PNet} {m : Nat} (h : m ≤ 20000) : nodeOf N (enc m) = N[m]? := by
  unfold nodeOf
  rw [nums_enc h]
theorem enc_inj {m n : Nat} (h : enc m = enc n) (hm : m ≤ 20000) (hn : n ≤ 20000) : m = n := by
  have h1 := nums_enc hm
  rw [h, nums_enc hn] at h1
  injection h1 with h1
  injection h1 with h1 _
  injection h1 with h1 _
  exact h1.symm
def keyS (n : Nat) : ByteArray := ⟨(enc n).toArray⟩
theorem keyS_inj {m n : Nat} (h : keyS m = keyS n) (hm : m ≤ 20000) (hn : n ≤ 20000) : m = n := by
  unfold keyS at h
  injection h with h
  injection h with h
  exact enc_inj h hm hn
theorem keyS_list (n : Nat) : (keyS n).data.toList = enc n := rfl
theorem keyS_size {n : Nat} (h : n ≤ 20000) : (keyS n).size ≤ 3 := by
  have := enc_len 2 n (by omega)
  show (enc n).toArray.size ≤ 3
  simpa using this
end Go.Proofs.Ytcedenoicmpjmaa
