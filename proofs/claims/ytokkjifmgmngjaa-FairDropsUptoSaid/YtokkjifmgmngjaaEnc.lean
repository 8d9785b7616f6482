/- Numbers as bytes: plain, and the walks of codec.number and of the document's. -/
import Derived.Test.YtokkjifmgmngjaaNa
import Derived.Laws.BytesArg
import Derived.Laws.IdiomStrings
namespace Go.Proofs.Ytokkjifmgmngjaa
open Go.RowKit
set_option linter.unusedVariables false
set_option linter.unusedSimpArgs false

abbrev Bs := List UInt8
def byteV (b : UInt8) : Value := .int .u8 (b.toNat : Int)
/-- A number's bytes. -/
def enc (n : Nat) : Bs := if n < 128 then [UInt8.ofNat n] else UInt8.ofNat (128 + n % 128) :: enc (n / 128)
termination_by n
theorem enc_lt {n : Nat} (h : n < 128) : enc n = [UInt8.ofNat n] := by rw [enc, if_pos h]
theorem enc_ge {n : Nat} (h : ¬ n < 128) : enc n = UInt8.ofNat (128 + n % 128) :: enc (n / 128) := by rw [enc, if_neg h]
theorem enc_len : ∀ (k n : Nat), n < 128 ^ (k + 1) → (enc n).length ≤ k + 1
  | 0, n, h => by rw [enc_lt (by simpa using h)]; simp
  | k + 1, n, h => by
    by_cases hn : n < 128
    · rw [enc_lt hn]; simp
    · rw [enc_ge hn, List.length_cons]
      have := enc_len k (n / 128) (by rw [Nat.div_lt_iff_lt_mul (by omega)]; rw [Nat.pow_succ] at h; exact h)
      omega
theorem enc_len64 {n : Nat} (h : n < 18446744073709551616) : (enc n).length ≤ 10 := enc_len 9 n (Nat.lt_of_lt_of_le h (by decide))
theorem enc_pos (n : Nat) : 0 < (enc n).length := by
  by_cases h : n < 128
  · rw [enc_lt h]; simp
  · rw [enc_ge h]; simp
theorem u8_of {n : Nat} (h : n < 256) : ((UInt8.ofNat n).toNat : Int) = (n : Int) := by
  rw [UInt8.toNat_ofNat']
  omega
set_option maxRecDepth 100000 in
theorem or_128 : ∀ c : Fin 256, bits BinOp.or IntKind.u8 (c.val : Int) 128 = ((128 + c.val % 128 : Nat) : Int) := by decide
theorem or128 (m : Nat) : bits BinOp.or IntKind.u8 ((m : Int) % 256) 128 = ((128 + m % 128 : Nat) : Int) := by
  have h := or_128 ⟨m % 256, Nat.mod_lt _ (by omega)⟩
  have h1 : ((m : Int) % 256) = ((m % 256 : Nat) : Int) := by omega
  rw [h1]
  have h2 : m % 256 % 128 = m % 128 := by omega
  simpa [h2] using h
theorem info_u8 : (Try.prog.info? 5).map (fun i => (i.zero.map fun z => z.cells.size, i.size, i.bytes)) = some (some 1, 1, 1) := by kernel_rfl

def EncPost (n : Nat) (w : World) (e : Ending) (w' : World) : Prop :=
  ∃ v, e = .returned v ∧ w'.ownsRow w.heap.size 5 1 v (enc n).length ((enc n).map byteV) ∧ Below w.heap.size w w'
set_option maxHeartbeats 1000000 in
set_option maxRecDepth 100000 in
theorem numberFn {n : Nat} (hn : n < 18446744073709551616) (w : World) : Calls Try.prog 53 #[.int .u64 (n : Int)] w (EncPost n w) := by
  have HN := Lib.hid hn
  clear hn
  obtain ⟨i0, z0, hi0, hz0, hz1, hz2, hz3⟩ := info_of info_u8
  go_enter Try.func53, Try.ntmps53
  go_wp2
  go_loopw [0, 3] (fun x y wr => ∃ (m : Nat) (acc : Bs), x = .int .u64 (m : Int) ∧ Hid (m < 18446744073709551616) ∧ Hid (acc ++ enc m = enc n) ∧ Hid (wr.ownsRow w.heap.size 5 1 y acc.length (acc.map byteV)) ∧ Hid (Below w.heap.size w wr)) (fun x _ _ => (intOf x).toNat)
  case atStart => exact ⟨n, [], rfl, HN.out, rfl, World.ownsRow_nil _ _ _ _, Below.refl _ _⟩
  case round =>
    obtain ⟨m, acc, hx, hm, HE, HO, HB⟩ := hrel
    subst hx
    have hal : acc.length ≤ 10 := by
      have h1 := congrArg List.length HE.out
      rw [List.length_append] at h1
      have := enc_len64 HN.out
      omega
    have HL := Lib.hid hal
    by_cases hl : m < 128
    · have d1 : decide ((128 : Int) ≤ (m : Int)) = false := decide_eq_false (by omega)
      clear hal
      go_wp2_with (at_builtin; refine wpList_append_own_at _ rfl (.tmp 14) (.tmp 17) _ rfl w.heap.size 5 i0 z0 1 1 Try.underlying111 hi0 hz0 hz1 hz2 hz3 (by omega) u3 acc.length (acc.map byteV) rfl (HO.out.alloc _) ⟨wr.heap.size, 0, none⟩ 1 1 [.int .u8 (m : Int)] rfl rfl ?c1 ?c2 ?c3 ?c4 ?c5 ?_)
      case c1 => exact cell_one_new _ _ _
      case c2 => simp [Value.oneCell']
      case c3 => have := HL.out; unfold maxLen; omega
      case c4 => have := HL.out; omega
      case c5 => have := HB.out.size; simp; omega
      intro v' w7 hown hgrow _ _
      have hfin : EncPost n w (.returned v') w7 := by
        refine ⟨v', rfl, ?_, (HB.out.alloc HB.out.size _).grown hgrow (by have := HB.out.size; simp; omega) fun k hk => (HO.out.lt k hk).1⟩
        have he := HE.out
        rw [enc_lt hl] at he
        rw [← he, List.length_append, List.map_append, List.length_singleton]
        have hb : byteV (UInt8.ofNat m) = .int .u8 (m : Int) := by unfold byteV; rw [u8_of (by omega)]
        simp only [List.map_cons, List.map_nil, hb]
        exact hown
      have HF := Lib.hid hfin
      clear hfin hown hgrow HE HO HB HL
      go_wp2
      go_ret
      exact HF.out
    · have d1 : decide ((128 : Int) ≤ (m : Int)) = true := decide_eq_true (by omega)
      have hor := or128 m
      clear hal
      go_wp2_with (at_builtin; refine wpList_append_own_at _ rfl (.tmp 6) (.tmp 10) _ rfl w.heap.size 5 i0 z0 1 1 Try.underlying111 hi0 hz0 hz1 hz2 hz3 (by omega) u3 acc.length (acc.map byteV) rfl (HO.out.alloc _) ⟨wr.heap.size, 0, none⟩ 1 1 [.int .u8 (128 + (m : Int) % 128)] rfl rfl ?c1 ?c2 ?c3 ?c4 ?c5 ?_)
      case c1 => exact cell_one_new _ _ _
      case c2 => simp [Value.oneCell']
      case c3 => have := HL.out; unfold maxLen; omega
      case c4 => have := HL.out; omega
      case c5 => have := HB.out.size; simp; omega
      intro v' w7 hown hgrow _ _
      have hB7 := (HB.out.alloc HB.out.size _).grown hgrow (by have := HB.out.size; simp; omega) fun k hk => (HO.out.lt k hk).1
      have hown7 : w7.ownsRow w.heap.size 5 1 v' (acc ++ [UInt8.ofNat (128 + m % 128)]).length ((acc ++ [UInt8.ofNat (128 + m % 128)]).map byteV) := by
        rw [List.length_append, List.map_append, List.length_singleton]
        have hb : byteV (UInt8.ofNat (128 + m % 128)) = .int .u8 (128 + (m : Int) % 128) := by unfold byteV; rw [u8_of (by omega)]; congr 1
        simp only [List.map_cons, List.map_nil, hb]
        exact hown
      have he7 : (acc ++ [UInt8.ofNat (128 + m % 128)]) ++ enc (m / 128) = enc n := by rw [← HE.out, enc_ge hl, List.append_assoc]; rfl
      have HB7 := Lib.hid hB7
      have HO7 := Lib.hid hown7
      have HE7 := Lib.hid he7
      clear hown hgrow HE HO HB HL hB7 hown7 he7 hor
      go_wp2
      refine ⟨⟨m / 128, acc ++ [UInt8.ofNat (128 + m % 128)], by simp, ?_, HE7, HO7, HB7⟩, ?_⟩
      · have := hm.out
        show m / 128 < 18446744073709551616
        omega
      · simp [intOf]
        omega
end Go.Proofs.Ytokkjifmgmngjaa
