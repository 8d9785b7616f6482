/- The walks of lasso.Check, sextantref10.Check, sextantref10.Letter, general.has, sextantref11.Has. -/
import Derived.Test.YtelanndleinabaaDoorRead
import Derived.Laws.Bits64b
namespace Go.Proofs.YtelanndleinabaaDoor
open Go.RowKit
set_option linter.unusedVariables false

/-- Whether a word may be. -/
def lasCode (l : Las) : Nat := if l.loop.length < 1 ∨ 4096 < l.pre.length + l.loop.length then 100 else 0

set_option maxRecDepth 100000 in
theorem lassoCheck (l : Las) (v : Value) (w : World) (hl : LasAt w.heap.size w v l) (hb : l.pre.length + l.loop.length ≤ 4000000) :
    Calls Tryd.prog 24 #[v] w fun e w' => e = .returned (.int .i64 (lasCode l : Nat)) ∧ Below w.heap.size w w' := by
  obtain ⟨a, b, rfl, ha, hbb⟩ := hl
  obtain ⟨a1, cap1, rfl, hc1, hm1⟩ := ha.form
  obtain ⟨a2, cap2, rfl, hc2, hm2⟩ := hbb.form
  have hB : Below w.heap.size w (w.alloc (.cells #[.slice a1 l.pre.length cap1, .slice a2 l.loop.length cap2] 28)) := (Below.refl _ _).alloc (Nat.le_refl _) _
  clear ha hbb
  unfold lasCode
  generalize l.pre.length = n1 at *
  generalize l.loop.length = n2 at *
  by_cases h1 : n2 < 1
  · rw [if_pos (.inl h1)]
    obtain rfl : n2 = 0 := by omega
    go_enter Tryd.func24, Tryd.ntmps24
    go_wp2
    go_ret
    exact ⟨rfl, hB⟩
  · have h1' : ((n2 : Int) == 0) = false := by simp; omega
    by_cases h2 : 4096 < n1 + n2
    · rw [if_pos (.inr h2)]
      have h2' : (4096 : Int) < (n1 : Int) + (n2 : Int) := by omega
      go_enter Tryd.func24, Tryd.ntmps24
      go_wp2
      go_ret
      exact ⟨rfl, hB⟩
    · rw [if_neg (by omega)]
      have h2' : decide ((4096 : Int) < (n1 : Int) + (n2 : Int)) = false := decide_eq_false (by omega)
      go_enter Tryd.func24, Tryd.ntmps24
      go_wp2
      go_ret
      exact ⟨rfl, hB⟩

set_option maxRecDepth 100000 in
theorem refLassoCheck (l : Las) (v : Value) (w : World) (hl : LasAt w.heap.size w v l) (hb : l.pre.length + l.loop.length ≤ 4000000) :
    Calls Tryd.prog 10 #[v] w fun e w' => e = .returned (.int .i64 (lasCode l : Nat)) ∧ Below w.heap.size w w' := by
  obtain ⟨a, b, rfl, ha, hbb⟩ := hl
  obtain ⟨a1, cap1, rfl, hc1, hm1⟩ := ha.form
  obtain ⟨a2, cap2, rfl, hc2, hm2⟩ := hbb.form
  have hB : Below w.heap.size w (w.alloc (.cells #[.slice a1 l.pre.length cap1, .slice a2 l.loop.length cap2] 28)) := (Below.refl _ _).alloc (Nat.le_refl _) _
  clear ha hbb
  unfold lasCode
  generalize l.pre.length = n1 at *
  generalize l.loop.length = n2 at *
  by_cases h1 : n2 < 1
  · rw [if_pos (.inl h1)]
    obtain rfl : n2 = 0 := by omega
    go_enter Tryd.func10, Tryd.ntmps10
    go_wp2
    go_ret
    exact ⟨rfl, hB⟩
  · have h1' : decide ((n2 : Int) < 1) = false := decide_eq_false (by omega)
    by_cases h2 : 4096 < n1 + n2
    · rw [if_pos (.inr h2)]
      have h2' : (4096 : Int) < (n1 : Int) + (n2 : Int) := by omega
      go_enter Tryd.func10, Tryd.ntmps10
      go_wp2
      go_ret
      exact ⟨rfl, hB⟩
    · rw [if_neg (by omega)]
      have h2' : decide ((4096 : Int) < (n1 : Int) + (n2 : Int)) = false := decide_eq_false (by omega)
      go_enter Tryd.func10, Tryd.ntmps10
      go_wp2
      go_ret
      exact ⟨rfl, hB⟩

/-- Has a guard a letter? -/
def hasB (yes no x : Nat) : Bool := (x &&& yes == yes) && (x &&& no == 0)

set_option maxRecDepth 100000 in
theorem genHas (yes no x : Nat) (hx : x < 18446744073709551616) (hy : yes < 18446744073709551616) (hn : no < 18446744073709551616) (w : World) : Calls Tryd.prog 27 #[.agg #[.int .u64 (yes : Int), .int .u64 (no : Int)], .int .u64 (x : Int)] w fun e w' => e = .returned (.bool (hasB yes no x)) ∧ Below w.heap.size w w' := by
  have hB : Below w.heap.size w (w.alloc (.cells #[.int .u64 (yes : Int), .int .u64 (no : Int)] 51)) := (Below.refl _ _).alloc (Nat.le_refl _) _
  have e1 := bits_and_u64_nat x yes hx hy
  have e2 := bits_and_u64_nat x no hx hn
  unfold hasB
  generalize x &&& yes = p at e1 ⊢
  generalize x &&& no = q at e2 ⊢
  by_cases h1 : p = yes
  · have h1' : ((p : Int) == (yes : Int)) = true := by simp [h1]
    by_cases h2 : q = 0
    · have h2' : ((q : Int) == 0) = true := by simp [h2]
      have h3 : (p == yes && q == 0) = true := by simp [h1, h2]
      rw [h3]
      clear h1 h2 h3
      go_enter Tryd.func27, Tryd.ntmps27
      go_wp2
      go_ret
      exact ⟨rfl, hB⟩
    · have h2' : ((q : Int) == 0) = false := by simp; omega
      have h3 : (p == yes && q == 0) = false := by simp [h1, h2]
      rw [h3]
      clear h1 h2 h3
      go_enter Tryd.func27, Tryd.ntmps27
      go_wp2
      go_ret
      exact ⟨rfl, hB⟩
  · have h1' : ((p : Int) == (yes : Int)) = false := by simp; omega
    have h3 : (p == yes && q == 0) = false := by simp [h1]
    rw [h3]
    clear h1 h3
    go_enter Tryd.func27, Tryd.ntmps27
    go_wp2
    go_ret
    exact ⟨rfl, hB⟩

/-- .. bit by bit. -/
def badBit (yes no x k : Nat) : Bool := (yes / 2 ^ k % 2 == 1 && x / 2 ^ k % 2 == 0) || (no / 2 ^ k % 2 == 1 && x / 2 ^ k % 2 == 1)
theorem bit_of (x k : Nat) : x.testBit k = (x / 2 ^ k % 2 == 1) := by
  rw [Nat.testBit_eq_decide_div_mod_eq]
  rw [Bool.eq_iff_iff]; simp
theorem bit_high {x k : Nat} (hx : x < 18446744073709551616) (hk : 64 ≤ k) : x.testBit k = false :=
  Nat.testBit_lt_two_pow (Nat.lt_of_lt_of_le hx (Nat.pow_le_pow_right (n := 2) (by omega) hk))
theorem hasB_bits {yes no x : Nat} (hx : x < 18446744073709551616) (hy : yes < 18446744073709551616) (hn : no < 18446744073709551616) : hasB yes no x = true ↔ ∀ k, k < 64 → badBit yes no x k = false := by
  unfold hasB
  rw [Bool.and_eq_true, beq_iff_eq, beq_iff_eq]
  constructor
  · rintro ⟨h1, h2⟩ k hk
    have a := congrArg (fun z => z.testBit k) h1
    have b := congrArg (fun z => z.testBit k) h2
    simp only [Nat.testBit_and, Nat.zero_testBit] at a b
    unfold badBit
    have e : (x / 2 ^ k % 2 == 0) = !(x / 2 ^ k % 2 == 1) := by
      rcases Nat.mod_two_eq_zero_or_one (x / 2 ^ k) with h | h <;> rw [h] <;> rfl
    rw [e, ← bit_of, ← bit_of, ← bit_of]
    revert a b
    cases x.testBit k <;> cases yes.testBit k <;> cases no.testBit k <;> simp
  · intro h
    have key : ∀ k, (yes.testBit k = true → x.testBit k = true) ∧ (no.testBit k = true → x.testBit k = false) := by
      intro k
      by_cases hk : k < 64
      · have := h k hk
        unfold badBit at this
        have e : (x / 2 ^ k % 2 == 0) = !(x / 2 ^ k % 2 == 1) := by
          rcases Nat.mod_two_eq_zero_or_one (x / 2 ^ k) with h | h <;> rw [h] <;> rfl
        rw [e, ← bit_of, ← bit_of, ← bit_of] at this
        revert this
        cases x.testBit k <;> cases yes.testBit k <;> cases no.testBit k <;> simp
      · rw [bit_high hy (by omega), bit_high hn (by omega)]
        simp
    constructor
    · apply Nat.eq_of_testBit_eq
      intro k
      rw [Nat.testBit_and]
      have := (key k).1
      revert this
      cases x.testBit k <;> cases yes.testBit k <;> simp
    · apply Nat.eq_of_testBit_eq
      intro k
      rw [Nat.testBit_and, Nat.zero_testBit]
      have := (key k).2
      revert this
      cases x.testBit k <;> cases no.testBit k <;> simp

set_option maxRecDepth 100000 in
theorem refHas (yes no x : Nat) (hx : x < 18446744073709551616) (hy : yes < 18446744073709551616) (hn : no < 18446744073709551616) (w : World) : Calls Tryd.prog 37 #[.agg #[.int .u64 (yes : Int), .int .u64 (no : Int)], .int .u64 (x : Int)] w fun e w' => e = .returned (.bool (hasB yes no x)) ∧ Below w.heap.size w w' := by
  have hB : Below w.heap.size w (w.alloc (.cells #[.int .u64 (yes : Int), .int .u64 (no : Int)] 51)) := (Below.refl _ _).alloc (Nat.le_refl _) _
  have HB := Lib.hid (hasB_bits hx hy hn)
  generalize hasB yes no x = G at HB ⊢
  go_enter Tryd.func37, Tryd.ntmps37
  go_wp2
  go_loopw [5] (fun n wr => ∃ k : Nat, n = .int .i64 (k : Int) ∧ k ≤ 64 ∧ Hid (∀ j, j < k → badBit yes no x j = false) ∧ Holds wr w.heap.size 51 [.int .u64 (yes : Int), .int .u64 (no : Int)] ∧ Below w.heap.size w wr) (fun n _ => (100 - intOf n).toNat)
  case atStart => exact ⟨0, rfl, by omega, (fun j h => by omega), Holds.new w _ _, hB⟩
  case round =>
    obtain ⟨k, rfl, hk, HK, hH, hB⟩ := hrel
    have c0 := hH.cell 0
    have c1 := hH.cell 1
    simp at c0 c1
    by_cases hl : k < 64
    · have hl' : (k : Int) < 64 := by omega
      have tm : ∀ z : Nat, ((z : Int) / 2 ^ k).tmod 2 = ((z / 2 ^ k % 2 : Nat) : Int) := by
        intro z
        have : ((z : Int) / 2 ^ k) = ((z / 2 ^ k : Nat) : Int) := by norm_cast
        rw [this]
        generalize z / 2 ^ k = u
        rw [Int.tmod_eq_emod_of_nonneg (Int.natCast_nonneg _)]
        omega
      have e1 := tm x
      have e2 := tm yes
      have e3 := tm no
      clear tm
      have hbb : badBit yes no x k = ((yes / 2 ^ k % 2 == 1 && x / 2 ^ k % 2 == 0) || (no / 2 ^ k % 2 == 1 && x / 2 ^ k % 2 == 1)) := rfl
      have b1 : x / 2 ^ k % 2 < 2 := Nat.mod_lt _ (by omega)
      have b2 : yes / 2 ^ k % 2 < 2 := Nat.mod_lt _ (by omega)
      have b3 : no / 2 ^ k % 2 < 2 := Nat.mod_lt _ (by omega)
      generalize x / 2 ^ k % 2 = p at e1 hbb b1
      generalize yes / 2 ^ k % 2 = q at e2 hbb b2
      generalize no / 2 ^ k % 2 = r at e3 hbb b3
      have HBB := Lib.hid hbb
      clear hbb
      obtain rfl | rfl : p = 0 ∨ p = 1 := by omega
      all_goals obtain rfl | rfl : q = 0 ∨ q = 1 := by omega
      all_goals obtain rfl | rfl : r = 0 ∨ r = 1 := by omega
      all_goals clear b1 b2 b3
      all_goals simp only [Int.natCast_zero, Int.natCast_one] at e1 e2 e3
      all_goals go_wp2
      all_goals first
        | (go_ret
           have : G = false := by
             cases G with
             | false => rfl
             | true =>
               have h1 := (HB.out).1 rfl k hl
               have h2 := HBB.out
               rw [h1] at h2
               cases h2
           subst this
           exact ⟨rfl, hB⟩)
        | exact ⟨⟨k + 1, rfl, by omega, (fun j hj => by
            by_cases hjk : j = k
            · subst hjk; exact HBB.out
            · exact HK.out j (by omega)), hH, hB⟩, by simp [intOf]; omega⟩
    · have hl' : decide ((k : Int) < 64) = false := decide_eq_false (by omega)
      have : G = true := HB.out.2 fun j hj => HK.out j (by omega)
      subst this
      go_wp2
      go_ret
      exact ⟨rfl, hB⟩
end Go.Proofs.YtelanndleinabaaDoor
