/- Chk, Idx, joined. -/
import Derived.Test.YtelanndleinabaaDoorSmall
import Derived.Shelf.GgClosure.Gives
section
/- The walks of slices.IndexFunc and slices.ContainsFunc over ints, of general.Check. -/
namespace Go.Proofs.YtelanndleinabaaDoor
open Go.RowKit
set_option linter.unusedVariables false

/-- What is asked of a function value that only reads. -/
def PredSame (g : Nat) (lb : Array Value) (p : Int → Bool) (w : World) (xs : List Int) : Prop :=
  ∀ x ∈ xs, Calls Tryd.prog g (#[.int .i64 x] ++ lb) w fun e w' => e = .returned (.bool (p x)) ∧ w' = w

/-- The first place. -/
def firstFrom (p : Int → Bool) : Nat → List Int → Int
  | _, [] => -1
  | i, x :: r => if p x then (i : Int) else firstFrom p (i + 1) r
theorem firstFrom_any (p : Int → Bool) : ∀ (l : List Int) (i : Nat), decide (0 ≤ firstFrom p i l) = l.any p
  | [], _ => rfl
  | x :: r, i => by
    rw [firstFrom, List.any_cons]
    by_cases h : p x = true
    · rw [if_pos h, h]; simp
    · rw [if_neg h, firstFrom_any p r, eq_false_of_ne_true h]; rfl
theorem drop_at {A : Type} {xs : List A} {k : Nat} {y : A} (h : xs[k]? = some y) : xs.drop k = y :: xs.drop (k + 1) := by
  have hk : k < xs.length := (List.getElem?_eq_some_iff.1 h).1
  rw [List.drop_eq_getElem_cons hk, (List.getElem?_eq_some_iff.1 h).2]

set_option maxHeartbeats 1000000 in
set_option maxRecDepth 100000 in
theorem indexFunc (g : Nat) (lb : Array Value) (eg : ∀ args w, (callFunc g args).run Tryd.prog w = .ok (.enter g args) w) (p : Int → Bool) (B : Nat) (v : Value) (xs : List Int) (w : World) (hv : RowI B w v xs) (hp : PredSame g lb p w xs) :
    Calls Tryd.prog 36 #[v, .func (.func g) #[] lb] w fun e w' => e = .returned (.int .i64 (firstFrom p 0 xs)) ∧ w' = w := by
  obtain ⟨a, cap, rfl, hc, hm⟩ := hv.form
  obtain ⟨n, hn⟩ : ∃ n, xs.length = n := ⟨_, rfl⟩
  rw [hn] at hc ⊢
  obtain ⟨R, hR⟩ : ∃ R, R = firstFrom p 0 xs := ⟨_, rfl⟩
  rw [← hR]
  have HR : Hid (R = firstFrom p 0 (xs.drop 0)) := hR
  clear hR
  have HN := Lib.hid hn
  have HV := Lib.hid hv
  have HP := Lib.hid hp
  clear hn hv hp
  go_enter Tryd.func36, Tryd.ntmps36
  go_wp2
  go_loopw [8] (fun x wr => ∃ k : Nat, x = .int .i64 (k : Int) ∧ k ≤ n ∧ Hid (R = firstFrom p k (xs.drop k)) ∧ wr = w) (fun x _ => (n + 10 - intOf x).toNat)
  case atStart => exact ⟨0, rfl, Nat.zero_le _, HR, rfl⟩
  case round =>
    clear HR
    obtain ⟨k, rfl, hk, HK, rfl⟩ := hrel
    by_cases hl : k < n
    · have hl' : (k : Int) < (n : Int) := by omega
      have hn := HN.out
      obtain ⟨y, hy⟩ : ∃ y, xs[k]? = some y := ⟨_, List.getElem?_eq_getElem (by omega)⟩
      obtain ⟨gb, o, rfl, hgb, hcell⟩ := HV.out.at (k := k) (by omega)
      have hyk : xs[k]'(by omega) = y := (List.getElem?_eq_some_iff.1 hy).2
      rw [hyk] at hcell
      have hpy := Lib.hid (HP.out y (List.mem_of_getElem? hy))
      have HD := Lib.hid (drop_at hy)
      clear hyk hy hn
      go_wp2_with (fail)
      refine (hpy.out).mono ?_
      rintro e wr ⟨rfl, rfl⟩
      by_cases hb : p y = true
      · have hres : R = (k : Int) := by rw [HK.out, HD.out, firstFrom, if_pos hb]
        rw [hb]
        go_wp2
        go_ret
        rw [hres]
        exact ⟨rfl, rfl⟩
      · have HK' : Hid (R = firstFrom p (k + 1) (xs.drop (k + 1))) := by
          show _ = _
          rw [HK.out, HD.out, firstFrom, if_neg hb]
        rw [eq_false_of_ne_true hb]
        go_wp2
        exact ⟨⟨k + 1, rfl, by omega, HK', trivial⟩, by simp [intOf]; omega⟩
    · have hl' : decide ((k : Int) < (n : Int)) = false := decide_eq_false (by omega)
      have hres : R = -1 := by
        rw [HK.out, List.drop_eq_nil_of_le (by rw [HN.out]; omega)]; rfl
      go_wp2
      go_ret
      rw [hres]
      exact ⟨rfl, rfl⟩

set_option maxRecDepth 100000 in
theorem containsFunc (g : Nat) (lb : Array Value) (eg : ∀ args w, (callFunc g args).run Tryd.prog w = .ok (.enter g args) w) (p : Int → Bool) (B : Nat) (v : Value) (xs : List Int) (w : World) (hv : RowI B w v xs) (hp : PredSame g lb p w xs) :
    Calls Tryd.prog 20 #[v, .func (.func g) #[] lb] w fun e w' => e = .returned (.bool (xs.any p)) ∧ w' = w := by
  have hC := Lib.hid (indexFunc g lb eg p B v xs w hv hp)
  have hA := Lib.hid (firstFrom_any p xs 0)
  clear hv hp
  go_enter Tryd.func20, Tryd.ntmps20
  go_wp2_with (fail)
  refine (hC.out).mono ?_
  rintro e w ⟨rfl, rfl⟩
  go_wp2
  go_ret
  rw [← hA.out]
  exact ⟨rfl, rfl⟩

set_option maxRecDepth 100000 in
theorem chkOut (x : Int) (b n : Nat) (w : World) (hc : w.cell? ⟨b, 0, none⟩ = some (.int .i64 (n : Int))) :
    Calls Tryd.prog 19 #[.int .i64 x, .pointer (some ⟨b, 0, none⟩)] w fun e w' => e = .returned (.bool (decide (x < 0) || decide ((n : Int) ≤ x))) ∧ w' = w := by
  by_cases h : x < 0
  · have h2 : (decide (x < 0) || decide ((n : Int) ≤ x)) = true := by simp [h]
    rw [h2]
    clear h2
    go_enter Tryd.func19, Tryd.ntmps19
    go_wp2
    go_ret
    exact ⟨rfl, rfl⟩
  · have h0 : decide (x < 0) = false := decide_eq_false h
    by_cases h1 : (n : Int) ≤ x
    · have h2 : (decide (x < 0) || decide ((n : Int) ≤ x)) = true := by simp [h1]
      rw [h2]
      clear h2 h
      go_enter Tryd.func19, Tryd.ntmps19
      go_wp2
      go_ret
      exact ⟨rfl, rfl⟩
    · have h2 : (decide (x < 0) || decide ((n : Int) ≤ x)) = false := by simp [h0]; omega
      have h3 : decide ((n : Int) ≤ x) = false := decide_eq_false h1
      rw [h2]
      clear h2 h h1
      go_enter Tryd.func19, Tryd.ntmps19
      go_wp2
      go_ret
      exact ⟨rfl, rfl⟩
theorem enters19 : ∀ args w, (callFunc 19 args).run Tryd.prog w = .ok (.enter 19 args) w := enters_of Tryd.func19 (by decide) rfl
end Go.Proofs.YtelanndleinabaaDoor
end
section
/- The walks of slices.Index and slices.Contains over ints. -/
namespace Go.Proofs.YtelanndleinabaaDoor
open Go.RowKit
set_option linter.unusedVariables false

set_option maxHeartbeats 1000000 in
set_option maxRecDepth 100000 in
theorem indexInt (z : Int) (B : Nat) (v : Value) (xs : List Int) (w : World) (hv : RowI B w v xs) :
    Calls Tryd.prog 46 #[v, .int .i64 z] w fun e w' => e = .returned (.int .i64 (firstFrom (fun y => z == y) 0 xs)) ∧ w' = w := by
  obtain ⟨a, cap, rfl, hc, hm⟩ := hv.form
  obtain ⟨n, hn⟩ : ∃ n, xs.length = n := ⟨_, rfl⟩
  rw [hn] at hc ⊢
  obtain ⟨R, hR⟩ : ∃ R, R = firstFrom (fun y => z == y) 0 xs := ⟨_, rfl⟩
  rw [← hR]
  have HR : Hid (R = firstFrom (fun y => z == y) 0 (xs.drop 0)) := hR
  clear hR
  have HN := Lib.hid hn
  have HV := Lib.hid hv
  clear hn hv
  go_enter Tryd.func46, Tryd.ntmps46
  go_wp2
  go_loopw [8] (fun x wr => ∃ k : Nat, x = .int .i64 (k : Int) ∧ k ≤ n ∧ Hid (R = firstFrom (fun y => z == y) k (xs.drop k)) ∧ wr = w) (fun x _ => (n + 10 - intOf x).toNat)
  case atStart => exact ⟨0, rfl, Nat.zero_le _, HR, rfl⟩
  case round =>
    clear HR
    obtain ⟨k, rfl, hk, HK, rfl⟩ := hrel
    by_cases hl : k < n
    · have hl' : (k : Int) < (n : Int) := by omega
      have hn := HN.out
      obtain ⟨y, hy⟩ : ∃ y, xs[k]? = some y := ⟨_, List.getElem?_eq_getElem (by omega)⟩
      obtain ⟨gb, o, rfl, hgb, hcell⟩ := HV.out.at (k := k) (by omega)
      have hyk : xs[k]'(by omega) = y := (List.getElem?_eq_some_iff.1 hy).2
      rw [hyk] at hcell
      have HD := Lib.hid (drop_at hy)
      clear hyk hy hn
      by_cases hb : (z == y) = true
      · have hres : R = (k : Int) := by rw [HK.out, HD.out, firstFrom, if_pos hb]
        go_wp2
        go_ret
        rw [hres]
        exact ⟨rfl, rfl⟩
      · have HK' : Hid (R = firstFrom (fun y => z == y) (k + 1) (xs.drop (k + 1))) := by
          show _ = _
          rw [HK.out, HD.out, firstFrom, if_neg hb]
        have hb' : (z == y) = false := eq_false_of_ne_true hb
        clear hb
        go_wp2
        exact ⟨⟨k + 1, rfl, by omega, HK', trivial⟩, by simp [intOf]; omega⟩
    · have hl' : decide ((k : Int) < (n : Int)) = false := decide_eq_false (by omega)
      have hres : R = -1 := by
        rw [HK.out, List.drop_eq_nil_of_le (by rw [HN.out]; omega)]; rfl
      go_wp2
      go_ret
      rw [hres]
      exact ⟨rfl, rfl⟩

set_option maxRecDepth 100000 in
theorem containsInt (z : Int) (B : Nat) (v : Value) (xs : List Int) (w : World) (hv : RowI B w v xs) :
    Calls Tryd.prog 32 #[v, .int .i64 z] w fun e w' => e = .returned (.bool (xs.any fun y => z == y)) ∧ w' = w := by
  have hC := Lib.hid (indexInt z B v xs w hv)
  have hA := Lib.hid (firstFrom_any (fun y => z == y) xs 0)
  clear hv
  go_enter Tryd.func32, Tryd.ntmps32
  go_wp2_with (fail)
  refine (hC.out).mono ?_
  rintro e w ⟨rfl, rfl⟩
  go_wp2
  go_ret
  rw [← hA.out]
  exact ⟨rfl, rfl⟩
end Go.Proofs.YtelanndleinabaaDoor
end
