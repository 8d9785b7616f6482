/- The walk of alternate.set; what an alternating automaton is, in memory. -/
import Derived.Test.YtelanndleinabaaDoorAEq
import Derived.Test.YtelanndleinabaaDoorGChk
namespace Go.Proofs.YtelanndleinabaaDoor
open Go.RowKit
set_option linter.unusedVariables false

def above (p : Option Int) (x : Int) : Bool := match p with
  | none => true
  | some q => decide (q < x)
/-- Rising numbers from 0 to most. -/
def setFrom (most : Int) : Option Int → List Int → Bool
  | _, [] => true
  | p, x :: r => decide (0 ≤ x) && decide (x ≤ most) && above p x && setFrom most (some x) r
def setL (l : List Int) (most : Int) : Bool := setFrom most none l

set_option maxHeartbeats 1000000 in
set_option maxRecDepth 100000 in
theorem setFn (most : Int) (v : Value) (xs : List Int) (w : World) (hv : RowI w.heap.size w v xs) (hmb : -9223372036854775808 ≤ most ∧ most ≤ 9223372036854775807) :
    Calls Tryd.prog 42 #[v, .int .i64 most] w fun e w' => e = .returned (.bool (setL xs most)) ∧ w' = w := by
  obtain ⟨a, cap, rfl, hc, hm⟩ := hv.form
  obtain ⟨n, hn⟩ : ∃ n, xs.length = n := ⟨_, rfl⟩
  rw [hn] at hc ⊢
  obtain ⟨R, hR⟩ : ∃ R, R = setL xs most := ⟨_, rfl⟩
  rw [← hR]
  have HR : Hid (R = setFrom most none (xs.drop 0)) := hR
  clear hR
  have HN := Lib.hid hn
  have HV := Lib.hid hv
  clear hn hv
  go_enter Tryd.func42, Tryd.ntmps42
  go_wp2
  go_loopw [9] (fun x wr => ∃ k : Nat, x = .int .i64 (k : Int) ∧ k ≤ n ∧ Hid (R = setFrom most (if k = 0 then none else xs[k - 1]?) (xs.drop k)) ∧ wr = w) (fun x _ => (n + 10 - intOf x).toNat)
  case atStart => exact ⟨0, rfl, Nat.zero_le _, HR, rfl⟩
  case round =>
    clear HR
    obtain ⟨k, rfl, hk, HK, rfl⟩ := hrel
    by_cases hl : k < n
    · have hl' : (k : Int) < (n : Int) := by omega
      have hn := HN.out
      obtain ⟨y, hy⟩ : ∃ y, xs[k]? = some y := ⟨_, List.getElem?_eq_getElem (by omega)⟩
      obtain ⟨gb, o, rfl, hgb, hcell⟩ := HV.out.at (k := k) (by omega)
      have hyk : xs[k]'(by omega) = y := (List.getElem?_eq_some_iff.1 hy).2
      rw [hyk] at hcell
      have HD := Lib.hid (drop_at hy)
      have HY := Lib.hid hy
      clear hyk hy
      by_cases h0 : y < 0
      · have hres : R = false := by rw [HK.out, HD.out, setFrom, decide_eq_false (by omega)]; rfl
        clear hn
        go_wp2
        go_ret
        rw [hres]
        exact ⟨rfl, rfl⟩
      · have h0' : decide (y < 0) = false := decide_eq_false h0
        by_cases h1 : most < y
        · have hres : R = false := by rw [HK.out, HD.out, setFrom, decide_eq_true (show (0 : Int) ≤ y by omega), decide_eq_false (show ¬ y ≤ most by omega)]; rfl
          clear hn h0
          go_wp2
          go_ret
          rw [hres]
          exact ⟨rfl, rfl⟩
        · have h1' : decide (most < y) = false := decide_eq_false h1
          rcases Nat.eq_zero_or_pos k with hk0 | hk0
          · have hk1 : decide ((0 : Int) < (k : Int)) = false := decide_eq_false (by omega)
            have hk2 : ¬ 0 < k := by omega
            have HK' : Hid (R = setFrom most (if k + 1 = 0 then none else xs[k + 1 - 1]?) (xs.drop (k + 1))) := by
              show _ = _
              rw [HK.out, HD.out, setFrom, decide_eq_true (show (0 : Int) ≤ y by omega), decide_eq_true (show y ≤ most by omega), if_pos hk0, if_neg (by omega), Nat.add_sub_cancel, HY.out]
              rfl
            clear hn h0 h1 hk0
            go_wp2
            exact ⟨⟨k + 1, rfl, by omega, HK', trivial⟩, by simp [intOf]; omega⟩
          · have hk1 : (0 : Int) < (k : Int) := by omega
            obtain ⟨z, hz⟩ : ∃ z, xs[k - 1]? = some z := ⟨_, List.getElem?_eq_getElem (by omega)⟩
            obtain ⟨gb2, o2, hgg, _, hcell2⟩ := HV.out.at (k := k - 1) (by omega)
            have hzk : xs[k - 1]'(by omega) = z := (List.getElem?_eq_some_iff.1 hz).2
            injection hgg with hgg
            injection hgg with hgg hoo
            rw [hzk, ← hgg, ← hoo] at hcell2
            obtain ⟨k1, hkk⟩ : ∃ k1, k = k1 + 1 := ⟨k - 1, by omega⟩
            have hsub : (k : Int) - 1 = (k1 : Int) := by omega
            have hk1n : k1 < n := by omega
            have hk1n' : (k1 : Int) < (n : Int) := by omega
            have e1 : k - 1 = k1 := by omega
            rw [e1] at hcell2 hz
            have hkst : R = (above (some z) y && setFrom most (some y) (xs.drop (k + 1))) := by
              rw [HK.out, HD.out, setFrom, decide_eq_true (show (0 : Int) ≤ y by omega), decide_eq_true (show y ≤ most by omega), if_neg (by omega), e1, hz]
              rfl
            have HKS := Lib.hid hkst
            have hnz : k + 1 ≠ 0 := by omega
            clear hn h0 h1 hgg hoo hkk e1 hz hzk hkst
            by_cases h2 : y ≤ z
            · have hres : R = false := by rw [HKS.out, show above (some z) y = false from decide_eq_false (by omega)]; rfl
              go_wp2
              go_ret
              exact ⟨rfl, rfl⟩
            · have h2' : decide (y ≤ z) = false := decide_eq_false h2
              have HK' : Hid (R = setFrom most (if k + 1 = 0 then none else xs[k + 1 - 1]?) (xs.drop (k + 1))) := by
                show _ = _
                rw [HKS.out, if_neg hnz, Nat.add_sub_cancel, HY.out]
                rw [show above (some z) y = true from decide_eq_true (by omega)]; rfl
              go_wp2
              exact ⟨⟨k + 1, rfl, by omega, HK', trivial⟩, by simp [intOf]; omega⟩
    · have hl' : decide ((k : Int) < (n : Int)) = false := decide_eq_false (by omega)
      have hres : R = true := by
        rw [HK.out, List.drop_eq_nil_of_le (by rw [HN.out]; omega)]; rfl
      go_wp2
      go_ret
      rw [hres]
      exact ⟨rfl, rfl⟩
end Go.Proofs.YtelanndleinabaaDoor
