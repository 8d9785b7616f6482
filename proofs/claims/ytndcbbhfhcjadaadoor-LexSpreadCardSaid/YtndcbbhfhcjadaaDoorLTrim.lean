/- How far a name goes, as strings.TrimLeftFunc tells it. -/
import Derived.Test.YtndcbbhfhcjadaaDoorLRes
import Derived.Lib.TrimUEq
namespace Go.Proofs.YtndcbbhfhcjadaaDoor
open Go.RowKit

/-- The runes of a name. -/
def runeIn (x : Nat) : Bool := decide (x < 128) && (ltr x || dig x)

set_option maxRecDepth 100000 in
theorem wordRune (x : Nat) (hx : x ≤ 1114111) (w : World) : Calls Tryd.prog 29 #[.int .i32 (x : Int)] w fun e w' => e = .returned (.bool (runeIn x)) ∧ w' = w := by
  by_cases h : x < 128
  · have hx : decide ((x : Int) < 128) = true := by simp; omega
    have hw : ((x : Int) % 256) = (x : Int) := by omega
    go_enter Tryd.func29, Tryd.ntmps29
    go_wp2_with (fail)
    refine (lexLetter x (by omega) _).mono ?_
    rintro e w ⟨rfl, rfl⟩
    by_cases hl : ltr x = true
    · rw [hl]
      go_wp2
      go_ret
      refine ⟨congrArg (fun b => Ending.returned (Value.bool b)) (?_ : true = runeIn x), rfl⟩
      simp [runeIn, h, hl]
    · have hl' := eq_false_of_ne_true hl
      rw [hl']
      clear hl
      go_wp2_with (fail)
      refine (lexDigit x _).mono ?_
      rintro e w ⟨rfl, rfl⟩
      go_wp2
      go_ret
      refine ⟨congrArg (fun b => Ending.returned (Value.bool b)) (?_ : dig x = runeIn x), rfl⟩
      simp [runeIn, h, hl']
  · have hx : decide ((x : Int) < 128) = false := by simp; omega
    go_enter Tryd.func29, Tryd.ntmps29
    go_wp2
    go_ret
    refine ⟨congrArg (fun b => Ending.returned (Value.bool b)) (?_ : false = runeIn x), rfl⟩
    simp [runeIn, h]

theorem get_at {s : ByteArray} {i : Nat} (h : i < s.size) : s.get! i = s[i] := by
  have h' : i < s.data.size := h
  simp only [ByteArray.get!]
  rw [getElem!_pos s.data i h']
  rfl
theorem decode_low {s : ByteArray} {i : Nat} (h : i < s.size) (h1 : s[i].toNat < 128) : Utf8.decode s i = (s[i].toNat, 1) := by
  rw [Lib.decode_at, get_at h, Lib.decodeN_ascii _ _ _ _ _ h1]

theorem decodeN_high (n b0 b1 b2 b3 : Nat) (h : 128 ≤ b0) : 128 ≤ (Lib.decodeN n b0 b1 b2 b3).1 := by
  unfold Lib.decodeN
  rw [if_neg (by omega)]
  repeat' split
  all_goals simp
  all_goals omega
theorem decode_high {s : ByteArray} {i : Nat} (h : i < s.size) (h1 : ¬ s[i].toNat < 128) : 128 ≤ (Utf8.decode s i).1 := by
  rw [Lib.decode_at, get_at h]
  exact decodeN_high _ _ _ _ _ (by omega)

theorem lod_low (c : UInt8) (h : lod c = true) : c.toNat < 128 := by
  have : ∀ n : Fin 256, (ltr n.val || dig n.val) = true → n.val < 128 := by decide +kernel
  exact this ⟨c.toNat, c.toNat_lt⟩ h
theorem runeIn_low (c : UInt8) (h : c.toNat < 128) : runeIn c.toNat = lod c := by simp [runeIn, lod, h]

theorem idx_names (s : ByteArray) : ∀ f pos : Nat, pos ≤ s.size → s.size ≤ pos + f →
    Lib.idxFuncFrom runeIn false s f pos = if pos + ((rest s pos).takeWhile lod).length = s.size then -1 else ((pos + ((rest s pos).takeWhile lod).length : Nat) : Int)
  | 0, pos, h, h' => by
    rw [Lib.idxFuncFrom, rest_end (by omega), if_pos (by simp; omega)]
  | f + 1, pos, h, h' => by
    rw [Lib.idxFuncFrom]
    by_cases hl : pos < s.size
    · rw [if_pos hl, rest_cons hl]
      by_cases hc : lod s[pos] = true
      · have h1 := lod_low _ hc
        rw [decode_low hl h1, List.takeWhile_cons, if_pos hc]
        simp only
        rw [runeIn_low _ h1, hc, if_neg (by decide), idx_names s f (pos + 1) hl (by omega)]
        simp only [List.length_cons]
        rw [show pos + 1 + ((rest s (pos + 1)).takeWhile lod).length = pos + (((rest s (pos + 1)).takeWhile lod).length + 1) by omega]
      · have h2 : runeIn (Utf8.decode s pos).1 = false := by
          by_cases h1 : s[pos].toNat < 128
          · rw [decode_low hl h1]
            exact (runeIn_low _ h1).trans (eq_false_of_ne_true hc)
          · have := decode_high hl h1
            simp [runeIn]
            intro h3; omega
        rw [if_pos h2, List.takeWhile_cons, if_neg hc]
        simp
        omega
    · rw [if_neg hl, rest_end (by omega), if_pos (by simp; omega)]

theorem trim_size (s : ByteArray) : (Lib.trimLeftF runeIn s).size = s.size - ((rest s 0).takeWhile lod).length := by
  have h := idx_names s s.size 0 (Nat.zero_le _) (by omega)
  have h1 := takeWhile_len lod (rest s 0)
  rw [rest_len] at h1
  unfold Lib.trimLeftF Lib.idxFunc
  rw [h]
  by_cases h2 : 0 + ((rest s 0).takeWhile lod).length = s.size
  · rw [if_pos h2, if_pos rfl]
    show 0 = _
    omega
  · rw [if_neg h2, if_neg (by omega), ByteArray.size_extract]
    omega
end Go.Proofs.YtndcbbhfhcjadaaDoor
