/- The walk of threads.turns. -/
import Derived.Test.YtcopoaaofjeklaaTsy
import Derived.Laws.Bits64b
namespace Go.Proofs.Ytcopoaaofjeklaa.G
open Go.RowKit
set_option linter.unusedVariables false
set_option linter.unusedSimpArgs false

theorem pow2_lt {i k : Nat} (h : i < k) : 2 ^ i < 2 ^ k := Nat.pow_lt_pow_right (by omega) h
theorem pow_u64 {i : Nat} (h : i < 64) : IntKind.u64.wrap ((2 : Int) ^ i) = ((2 ^ i : Nat) : Int) := by
  have h1 : 2 ^ i < 2 ^ 64 := pow2_lt h
  have h2 : ((2 : Int) ^ i) = ((2 ^ i : Nat) : Int) := by push_cast; rfl
  rw [h2]
  generalize 2 ^ i = z at *
  rw [IntKind.wrap_u64]
  omega
theorem bits_at {acc i : Nat} (h : acc < 2 ^ i) (hi : i < 63) : bits BinOp.or IntKind.u64 (acc : Int) (IntKind.u64.wrap ((2 : Int) ^ i)) = ((acc ||| 2 ^ i : Nat) : Int) ∧ acc ||| 2 ^ i < 2 ^ (i + 1) := by
  have h1 : 2 ^ i < 2 ^ 64 := pow2_lt (by omega)
  have h2 : 2 ^ i < 2 ^ (i + 1) := pow2_lt (by omega)
  rw [pow_u64 (by omega), bits_or_u64_nat _ _ (by omega) (by omega)]
  exact ⟨rfl, Nat.or_lt_two_pow (by omega) h2⟩
theorem tturns_at {o : Int} {l : List TProp} {i j : Nat} (h : i < l.length) : tturns o (l.drop i) j = (if l[i].obj = o then 2 ^ j else 0) ||| tturns o (l.drop (i + 1)) (j + 1) := by
  rw [List.drop_eq_getElem_cons h, tturns]
set_option maxHeartbeats 4000000 in
set_option maxRecDepth 100000 in
theorem turnsFn {P : Nat → Prop} {w : World} {l : List TProp} {vi vp vq : Value} {f : List Value} {o : Int} (h : RowL P w 2 vq l.length f) (hf : LsF TPropF P w l f) (h1 : vi.oneCell' = true) (h2 : vp.oneCell' = true) (hl : l.length ≤ 60) :
    Calls Try.prog 68 #[.agg #[vi, vp, vq], .int .i64 o] w (fun e w' => e = .returned (.int .u64 (tturns o l 0 : Int)) ∧ Below w.heap.size w w') := by
  obtain ⟨aq, cq, rfl, hcq, _, _⟩ := h.form
  obtain ⟨w1, hw1⟩ : ∃ W, W = w.alloc (.cells #[vi, vp, .slice aq l.length cq] 66) := ⟨_, rfl⟩
  have hb1 : Below w.heap.size w w1 := by rw [hw1]; exact (Below.refl _ _).alloc (Nat.le_refl _) _
  have h3 : Holds w1 w.heap.size 66 [vi, vp, .slice aq l.length cq] := by rw [hw1]; exact Holds.new w 66 #[vi, vp, .slice aq l.length cq]
  have HR := Lib.hid (h.up (Keep.below hb1))
  have HF := Lib.hid (LsF.up (fun _ _ => oneTProp.up (Keep.below hb1)) _ hf)
  have HB1 := Lib.hid hb1
  obtain ⟨n, hn⟩ : ∃ n, l.length = n := ⟨_, rfl⟩
  have HN := Lib.hid hn
  have e2 := h3.cell 2
  simp only [List.getElem?_cons_zero, List.getElem?_cons_succ] at e2
  rw [hn] at hw1 e2 hcq hl
  rw [hn]
  rw [hw1] at e2
  clear h hf hb1 h3 hn
  go_enter Try.func68, Try.ntmps68
  go_wp2_with (fail)
  rw [← hw1]
  clear hw1 e2
  go_loopw [5, 12] (fun u x W => ∃ i acc : Nat, x = .int .i64 (i : Int) ∧ i ≤ n ∧ u = .int .u64 (acc : Int) ∧ acc < 2 ^ i ∧ Hid (acc ||| tturns o (l.drop i) i = tturns o l 0) ∧ Hid (Below w1.heap.size w1 W)) (fun _ x _ => n - (intOf x).toNat)
  case atStart => exact ⟨0, 0, rfl, Nat.zero_le _, rfl, by simp, by show _ = _; rw [Nat.zero_or]; rfl, Below.refl _ _⟩
  case round =>
    obtain ⟨i, acc, hx, hi, hu, hacc, HA, HB⟩ := hrel
    subst hx
    subst hu
    by_cases hin : i < n
    · have hi2i : (i : Int) < (n : Int) := by omega
      have hi0i : (0 : Int) ≤ (i : Int) := by omega
      have hwii : IntKind.i64.wrap (i : Int) = (i : Int) := by rw [IntKind.wrap_i64]; omega
      have hwji : IntKind.i64.wrap ((i : Int) + 1) = (i : Int) + 1 := by rw [IntKind.wrap_i64]; omega
      have hil : i < l.length := by rw [HN.out]; exact hin
      obtain ⟨gb, ob, cb, c, he, hG, hr⟩ := (HR.out.up (Keep.below HB.out)).atN oneTProp (LsF.up (fun _ _ => oneTProp.up (Keep.below HB.out)) _ HF.out) hil
      injection he with he _ hec
      subst he hec
      have hG : c = _ := hG
      subst hG
      have HR1 := Lib.hid hr
      have HST0 := tturns_at (o := o) (j := i) hil
      obtain ⟨po, hpo⟩ : ∃ q, l[i].obj = q := ⟨_, rfl⟩
      obtain ⟨pv, hpv⟩ : ∃ q, l[i].val = q := ⟨_, rfl⟩
      rw [hpo] at HST0 HR1
      rw [hpv] at HR1
      have HST := Lib.hid HST0
      clear HST0 hr hpo hpv hG
      by_cases hpo : po = o
      · have d1 : (po == o) = true := by rw [hpo]; exact beq_self_eq_true _
        obtain ⟨k1, k2⟩ := bits_at hacc (by omega)
        have HK2 := Lib.hid k2
        have HP := Lib.hid hpo
        clear hpo k2
        go_wp2_with (first | (refine wpList_load_mid rfl 56 _ rfl gb (ob + i * 2) rfl [.int .i64 po, .int .i64 pv] _ HR1.out Try.underlying56 rfl sz_TProp ?_))
        refine ⟨⟨i + 1, acc ||| 2 ^ i, by simp, by omega, rfl, HK2.out, ?_, ?_⟩, ?_⟩
        · show _ = _
          rw [← HA.out, HST.out, if_pos HP.out, Nat.or_assoc]
        · exact HB.out.alloc HB.out.size _
        · simp [intOf]
          omega
      · have d1 : (po == o) = false := by rw [beq_eq_false_iff_ne]; exact hpo
        have HP := Lib.hid hpo
        clear hpo
        go_wp2_with (first | (refine wpList_load_mid rfl 56 _ rfl gb (ob + i * 2) rfl [.int .i64 po, .int .i64 pv] _ HR1.out Try.underlying56 rfl sz_TProp ?_))
        refine ⟨⟨i + 1, acc, by simp, by omega, rfl, Nat.lt_trans hacc (pow2_lt (by omega)), ?_, ?_⟩, ?_⟩
        · show _ = _
          rw [← HA.out, HST.out, if_neg HP.out, Nat.zero_or]
        · exact HB.out.alloc HB.out.size _
        · simp [intOf]
          omega
    · obtain rfl : i = n := by omega
      have hz : acc = tturns o l 0 := by
        rw [← HA.out, List.drop_of_length_le (by rw [HN.out]; exact Nat.le_refl _)]
        show _ = acc ||| 0
        rw [Nat.or_zero]
      have HZ := Lib.hid hz
      clear hz
      go_wp2
      go_ret
      exact ⟨by rw [HZ.out]; rfl, HB1.out.trans (HB.out.mono HB1.out.size)⟩
end Go.Proofs.Ytcopoaaofjeklaa.G
