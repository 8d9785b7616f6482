/- The walk of store.hash: it is FNV-1a of the bytes. No conditions but the length of a Go string. -/
import Derived.Test.YtgacglmbhfppgaaMath
import Derived.Test.YtgacglmbhfppgaaRows
import Derived.WalkKit
import Derived.WalkSpells
import Derived.WalkLawsBesides
namespace Go.Proofs.Ytgacglmbhfppgaa
open Go.RowKit

theorem ret_u64 {a b : Int} (h : a = b) : Ending.returned (.int .u64 a) = .returned (.int .u64 b) := by rw [h]

theorem take_snoc (s : ByteArray) (k : Nat) (h : k < s.size) : s.data.toList.take (k + 1) = s.data.toList.take k ++ [s[k]] := by
  rw [List.take_succ_eq_append_getElem (by simpa using h)]; rfl

theorem hash_take (s : ByteArray) (k : Nat) (h : k < s.size) : hashN (s.data.toList.take (k + 1)) = hstep (hashN (s.data.toList.take k)) s[k] := by
  rw [take_snoc s k h, hashN_snoc]

theorem hash_step (h : Nat) (hh : h < 18446744073709551616) (c : UInt8) : IntKind.u64.wrap (bits .xor .u64 (h : Int) (IntKind.u64.wrap (c.toNat : Int)) * 1099511628211) = (hstep h c : Int) := by
  have hc : c.toNat < 256 := c.toNat_lt
  have e1 : IntKind.u64.wrap (c.toNat : Int) = (c.toNat : Int) := by rw [IntKind.wrap_u64]; omega
  have e2 : (hstep h c : Int) = (((h ^^^ c.toNat) * hprime : Nat) : Int) % 18446744073709551616 := by unfold hstep; exact Int.natCast_emod _ _
  rw [e1, u64_xor_nat h c.toNat hh (by omega), IntKind.wrap_u64, e2, Int.natCast_mul]
  rfl

set_option maxHeartbeats 400000 in
theorem hash_any (s : ByteArray) (w : World) (hs : s.size ≤ maxLen) :
    Calls Try.prog 23 #[.string s] w fun e w' => e = .returned (.int .u64 (hOf s : Int)) ∧ w = w' := by
  unfold maxLen at hs
  go_enter Try.func23, Try.ntmps23
  go_wp2
  go_loop [3, 4, 7] (fun h _ i => ∃ k : Nat, k ≤ s.size ∧ i = .int .i64 k ∧ h = .int .u64 (hashN (s.data.toList.take k))) (fun _ _ i => s.size - (intOf i).toNat)
  case atStart => exact ⟨0, Nat.zero_le _, rfl, rfl⟩
  case round =>
    obtain ⟨k, hk, rfl, rfl⟩ := hrel
    by_cases hlt : k < s.size
    · have HS : Hid (IntKind.u64.wrap (bits .xor .u64 (hashN (s.data.toList.take k) : Int) (IntKind.u64.wrap (s[k].toNat : Int)) * 1099511628211) = (hashN (s.data.toList.take (k + 1)) : Int)) := by
        rw [hash_take s k hlt]; exact hash_step _ (hashN_lt _) _
      go_wp2
      go_round
      case rel => exact ⟨k + 1, by omega, by go_num, by rw [HS.out]⟩
      case measure => simp [intOf]; omega
    · go_wp2
      go_ret
      exact ⟨ret_u64 (by rw [List.take_of_length_le (by simp; omega)]; rfl), rfl⟩
end Go.Proofs.Ytgacglmbhfppgaa
