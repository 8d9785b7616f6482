/- The walk of sextantref10.Letter. -/
import Derived.Test.YtelanndleinabaaDoorGAcc
namespace Go.Proofs.YtelanndleinabaaDoor
open Go.RowKit
set_option linter.unusedVariables false

set_option maxHeartbeats 4000000 in
set_option maxRecDepth 100000 in
theorem letterFn (l : Las) (vl : Value) (i : Nat) (w : World) (hl : LasAt w.heap.size w vl l) (hi : i < l.pre.length + l.loop.length) (hb : l.pre.length + l.loop.length ≤ 8192) :
    Calls Tryd.prog 38 #[vl, .int .u64 (i : Int)] w fun e w' => e = .returned (.int .u64 (((l.pre ++ l.loop).getD i 0 : Nat) : Int)) ∧ Below w.heap.size w w' := by
  obtain ⟨vp, vq, rfl, hp, hq⟩ := hl
  obtain ⟨a3, cap3, rfl, hc3, hm3⟩ := hp.form
  obtain ⟨a4, cap4, rfl, hc4, hm4⟩ := hq.form
  obtain ⟨p1, hp1⟩ : ∃ p1, l.pre.length = p1 := ⟨_, rfl⟩
  obtain ⟨p2, hp2⟩ : ∃ p2, l.loop.length = p2 := ⟨_, rfl⟩
  obtain ⟨R, hR⟩ : ∃ R, (l.pre ++ l.loop).getD i 0 = R := ⟨_, rfl⟩
  rw [hp1, hp2] at hi hb
  rw [hp1] at hc3 hp
  rw [hp2] at hc4 hq
  rw [hR, hp1, hp2]
  have HR := Lib.hid hR
  have HP1 := Lib.hid hp1
  have HP2 := Lib.hid hp2
  have hB0 : Below w.heap.size w (w.alloc (.cells #[.slice a3 p1 cap3, .slice a4 p2 cap4] 28)) := (Below.refl _ _).alloc (Nat.le_refl _) _
  have hW := Holds.new w 28 #[.slice a3 p1 cap3, .slice a4 p2 cap4]
  have z0 := hW.cell 0
  have z1 := hW.cell 1
  simp only [List.getElem?_cons_zero, List.getElem?_cons_succ] at z0 z1
  by_cases h : i < p1
  · obtain ⟨g, o, rfl, hg, hc⟩ := (hp.below hB0).at (k := i) (by rw [hp1]; exact h)
    have hx : l.pre[i]'(by rw [hp1]; exact h) = R := by
      rw [← hR, List.getD_eq_getElem?_getD, List.getElem?_append_left (by rw [hp1]; exact h), List.getElem?_eq_getElem (by rw [hp1]; exact h)]; rfl
    rw [hx] at hc
    have h' : (i : Int) < (p1 : Int) := by omega
    have hw1 : IntKind.u64.wrap (p1 : Int) = (p1 : Int) := by rw [IntKind.wrap_u64]; omega
    clear hp hq hR hp1 hp2 hx
    go_enter Tryd.func38, Tryd.ntmps38
    go_wp2
    go_ret
    exact ⟨rfl, hB0⟩
  · obtain ⟨d, hd⟩ : ∃ d, i - p1 = d := ⟨_, rfl⟩
    have hdp : d < p2 := by omega
    obtain ⟨g, o, rfl, hg, hc⟩ := (hq.below hB0).at (k := d) (by rw [hp2]; exact hdp)
    have hx : l.loop[d]'(by rw [hp2]; exact hdp) = R := by
      rw [← hR, List.getD_eq_getElem?_getD, List.getElem?_append_right (by rw [hp1]; omega), hp1, hd, List.getElem?_eq_getElem (by rw [hp2]; exact hdp)]; rfl
    rw [hx] at hc
    have h' : decide ((i : Int) < (p1 : Int)) = false := decide_eq_false (by omega)
    have hw1 : IntKind.u64.wrap (p1 : Int) = (p1 : Int) := by rw [IntKind.wrap_u64]; omega
    have hw2 : IntKind.u64.wrap (p2 : Int) = (p2 : Int) := by rw [IntKind.wrap_u64]; omega
    have hsb : (i : Int) - (p1 : Int) = (d : Int) := by omega
    have hw3 : IntKind.u64.wrap (d : Int) = (d : Int) := by rw [IntKind.wrap_u64]; omega
    have hmd : Int.tmod (d : Int) (p2 : Int) = (d : Int) := by rw [natCast_mod, Nat.mod_eq_of_lt hdp]
    have hnz : ((p2 : Int) == 0) = false := by simp; omega
    have hdp' : (d : Int) < (p2 : Int) := by omega
    clear hp hq hR hp1 hp2 hx hd
    go_enter Tryd.func38, Tryd.ntmps38
    go_wp2
    go_quiet (fail)
    go_wp2
    go_ret
    exact ⟨rfl, below_drewN' hB0 _⟩
end Go.Proofs.YtelanndleinabaaDoor
