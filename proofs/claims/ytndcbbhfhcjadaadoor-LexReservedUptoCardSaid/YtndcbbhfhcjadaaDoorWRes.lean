/- The walks of sextantref02.Reserved and of sextantlaw02.LexReserved. -/
import Derived.Test.YtndcbbhfhcjadaaDoorWTokens
namespace Go.Proofs.YtndcbbhfhcjadaaDoor
open Go.RowKit
set_option linter.unusedVariables false

theorem isIn_eq (l : List Bs) (s : ByteArray) : isIn l s = l.contains s.data.toList := by
  unfold isIn
  rw [List.contains_eq_any_beq, ByteArray.toList_eq]

def oneIs : Bs → Bool
  | [c] => isOne c.toNat
  | _ => false
theorem ones_contains (l : Bs) : (oneBytes.map fun n => [n]).contains l = oneIs l := by
  rw [Bool.eq_iff_iff, List.contains_iff_mem, List.mem_map]
  match l with
  | [] => simp [oneIs]
  | [c] => simp only [oneIs, isOne_bytes]; simp
  | c :: d :: r => simp [oneIs]

theorem isRes_parts (l : Bs) : isRes l = (names.contains l || twos.contains l || oneIs l) := by
  unfold isRes
  rw [signs_eq, ← ones_contains, Bool.or_assoc]
  congr 1
  rw [Bool.eq_iff_iff]
  simp [List.mem_append]

set_option maxRecDepth 100000 in
theorem refReserved (s : ByteArray) (w : World) : Calls Tryd.prog 13 #[.string s] w fun e w' => e = .returned (.bool (isRes s.data.toList)) ∧ w' = w := by
  rw [isRes_parts, ← isIn_eq, ← isIn_eq]
  have h21 := Lib.hid fun w => refName s w
  have h22 := Lib.hid fun w => refTwo s w
  generalize isIn names s = A at h21 ⊢
  generalize isIn twos s = B at h22 ⊢
  have hz : ∀ h : s.size = 1, oneIs s.data.toList = isOne s[0].toNat := by
    intro h
    have := rest_cons (s := s) (i := 0) (by omega)
    rw [rest_end (i := 0 + 1) (by omega)] at this
    rw [← rest_zero, this]; rfl
  have hl : ¬ s.size = 1 → oneIs s.data.toList = false := by
    intro h1
    have : s.data.toList.length = s.size := by simp
    match hm : s.data.toList with
    | [] => rfl
    | [c] => rw [hm] at this; simp at this; omega
    | c :: d :: r => rfl
  generalize oneIs s.data.toList = Z at hz hl ⊢
  have HZ := Lib.hid hz
  have HL := Lib.hid hl
  clear hz hl
  go_enter Tryd.func13, Tryd.ntmps13
  go_wp2_with (fail)
  refine (h21.out _).mono ?_
  rintro e w ⟨rfl, rfl⟩
  go_wp2_with (fail)
  refine (h22.out _).mono ?_
  rintro e w ⟨rfl, rfl⟩
  clear h21 h22
  by_cases h1 : s.size = 1
  · have h1' : ((s.size : Int) == 1) = true := by simp; omega
    have hlt : (0 : Int) < (s.size : Int) := by omega
    have h2 := HZ.out h1
    subst h2
    cases A <;> cases B
    · go_wp2_with (fail)
      refine (refOne _ _).mono ?_
      rintro e w ⟨rfl, rfl⟩
      go_wp2
      go_ret
      exact ⟨rfl, rfl⟩
    all_goals
      go_wp2
      go_ret
      exact ⟨rfl, rfl⟩
  · have h1' : ((s.size : Int) == 1) = false := by simp; omega
    have h2 := HL.out h1
    subst h2
    cases A <;> cases B
    all_goals
      go_wp2
      go_ret
      exact ⟨rfl, rfl⟩

set_option maxRecDepth 100000 in
theorem lawReserved (s : ByteArray) (hs : s.size ≤ 1048576) (w : World) (hw : Sound w) : Calls Tryd.prog 4 #[.string s] w fun e w' => e = .returned (.bool true) ∧ Below w.heap.size w w' := by
  go_enter Tryd.func4, Tryd.ntmps4
  go_wp2_with (fail)
  refine (hw.awake).mono ?_
  rintro e w1 ⟨rfl, hb1⟩
  obtain ⟨m, hm⟩ := (hw.below hb1).len
  go_wp2_with (fail)
  refine (lexReserved s m (by omega) _ hm).mono ?_
  rintro e w1 ⟨rfl, rfl⟩
  generalize hG : isRes s.data.toList = G
  have HG := Lib.hid hG
  clear hG
  go_wp2_with (fail)
  refine (refReserved s _).mono ?_
  rintro e w1 ⟨rfl, rfl⟩
  rw [HG.out]
  cases G
  all_goals
    go_wp2
    go_ret
    exact ⟨rfl, hb1⟩
end Go.Proofs.YtndcbbhfhcjadaaDoor
