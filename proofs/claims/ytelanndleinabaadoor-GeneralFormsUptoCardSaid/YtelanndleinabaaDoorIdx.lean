/- The walks of slices.Index and slices.Contains over ints. -/
import Derived.Test.YtelanndleinabaaDoorChk
namespace Go.Proofs.YtelanndleinabaaDoor
open Go.RowKit
set_option linter.unusedVariables false

set_option maxHeartbeats 1000000 in
set_option maxRecDepth 100000 in
theorem indexInt (z : Int) (B : Nat) (v : Value) (xs : List Int) (w : World) (hv : RowI B w v xs) :
    Calls Tryd.prog 46 #[v, .int .i64 z] w fun e w' => e = .returned (.int .i64 (firstFrom (fun y => z == y) 0 xs)) ∧ w' = w := by
  obtain ⟨a, cap, rfl, hc, hm⟩ := hv.form
  obtain ⟨n, hn⟩ : ∃ n, xs.length = n := ⟨_, rfl⟩
  rw [hn] at hc ⊢
  obtain ⟨R, hR⟩ : ∃ R, R = firstFrom (fun y => z == y) 0 xs := ⟨_, rfl⟩
  rw [← hR]
  have HR : Hid (R = firstFrom (fun y => z == y) 0 (xs.drop 0)) := hR
  clear hR
  have HN := Lib.hid hn
  have HV := Lib.hid hv
  clear hn hv
  go_enter Tryd.func46, Tryd.ntmps46
  go_wp2
  go_loopw [8] (fun x wr => ∃ k : Nat, x = .int .i64 (k : Int) ∧ k ≤ n ∧ Hid (R = firstFrom (fun y => z == y) k (xs.drop k)) ∧ wr = w) (fun x _ => (n + 10 - intOf x).toNat)
  case atStart => exact ⟨0, rfl, Nat.zero_le _, HR, rfl⟩
  case round =>
    clear HR
    obtain ⟨k, rfl, hk, HK, rfl⟩ := hrel
    by_cases hl : k < n
    · have hl' : (k : Int) < (n : Int) := by omega
      have hn := HN.out
      obtain ⟨y, hy⟩ : ∃ y, xs[k]? = some y := ⟨_, List.getElem?_eq_getElem (by omega)⟩
      obtain ⟨gb, o, rfl, hgb, hcell⟩ := HV.out.at (k := k) (by omega)
      have hyk : xs[k]'(by omega) = y := (List.getElem?_eq_some_iff.1 hy).2
      rw [hyk] at hcell
      have HD := Lib.hid (drop_at hy)
      clear hyk hy hn
      by_cases hb : (z == y) = true
      · have hres : R = (k : Int) := by rw [HK.out, HD.out, firstFrom, if_pos hb]
        go_wp2
        go_ret
        rw [hres]
        exact ⟨rfl, rfl⟩
      · have HK' : Hid (R = firstFrom (fun y => z == y) (k + 1) (xs.drop (k + 1))) := by
          show _ = _
          rw [HK.out, HD.out, firstFrom, if_neg hb]
        have hb' : (z == y) = false := eq_false_of_ne_true hb
        clear hb
        go_wp2
        exact ⟨⟨k + 1, rfl, by omega, HK', trivial⟩, by simp [intOf]; omega⟩
    · have hl' : decide ((k : Int) < (n : Int)) = false := decide_eq_false (by omega)
      have hres : R = -1 := by
        rw [HK.out, List.drop_eq_nil_of_le (by rw [HN.out]; omega)]; rfl
      go_wp2
      go_ret
      rw [hres]
      exact ⟨rfl, rfl⟩

set_option maxRecDepth 100000 in
theorem containsInt (z : Int) (B : Nat) (v : Value) (xs : List Int) (w : World) (hv : RowI B w v xs) :
    Calls Tryd.prog 32 #[v, .int .i64 z] w fun e w' => e = .returned (.bool (xs.any fun y => z == y)) ∧ w' = w := by
  have hC := Lib.hid (indexInt z B v xs w hv)
  have hA := Lib.hid (firstFrom_any (fun y => z == y) xs 0)
  clear hv
  go_enter Tryd.func32, Tryd.ntmps32
  go_wp2_with (fail)
  refine (hC.out).mono ?_
  rintro e w ⟨rfl, rfl⟩
  go_wp2
  go_ret
  rw [← hA.out]
  exact ⟨rfl, rfl⟩
end Go.Proofs.YtelanndleinabaaDoor
