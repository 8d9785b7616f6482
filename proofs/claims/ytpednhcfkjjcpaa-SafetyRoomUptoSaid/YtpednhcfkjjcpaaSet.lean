/- Sets of numbers; which graphs may be: plain; the walks of set, bad, Set. -/
import Derived.Test.YtpednhcfkjjcpaaNet
namespace Go.Proofs.Ytpednhcfkjjcpaa
open Go.RowKit
set_option linter.unusedVariables false
set_option linter.unusedSimpArgs false

def setAt (l : List Int) (i : Nat) : Bool := decide (0 ≤ l.getD i 0) && (i == 0 || decide (l.getD (i - 1) 0 < l.getD i 0))
/-- From 0 on, rising. -/
def pset (l : List Int) : Bool := (List.range l.length).all (setAt l)
theorem pset_no {l : List Int} {i : Nat} (hi : i < l.length) (h : setAt l i = false) : pset l = false := by
  cases hp : pset l with
  | false => rfl
  | true =>
    have := List.all_eq_true.1 hp i (List.mem_range.2 hi)
    rw [h] at this; cases this
theorem pset_yes {l : List Int} (h : ∀ i, i < l.length → setAt l i = true) : pset l = true := List.all_eq_true.2 fun i hi => h i (List.mem_range.1 hi)
theorem setAt_pos {l : List Int} {i : Nat} (h : i < l.length) (h0 : 0 ≤ l[i]) (h1 : i = 0 ∨ ∃ h' : i - 1 < l.length, l[i - 1] < l[i]) : setAt l i = true := by
  unfold setAt
  rw [List.getD_eq_getElem?_getD, List.getElem?_eq_getElem h]
  rcases h1 with h1 | ⟨h', h1⟩
  · subst h1
    simpa using h0
  · rw [List.getD_eq_getElem?_getD, List.getElem?_eq_getElem h']
    simp [h0, h1]
theorem setAt_neg {l : List Int} {i : Nat} (h : i < l.length) (h1 : l[i] < 0 ∨ 0 < i ∧ ∃ h' : i - 1 < l.length, l[i] ≤ l[i - 1]) : setAt l i = false := by
  unfold setAt
  rw [List.getD_eq_getElem?_getD, List.getElem?_eq_getElem h]
  rcases h1 with h1 | ⟨h0, h', h1⟩
  · simp; omega
  · rw [List.getD_eq_getElem?_getD, List.getElem?_eq_getElem h']
    have : (i == 0) = false := by simp; omega
    simp [this]
    intro _; omega
def chkArc (size : Nat) (a : PArc) : Bool := decide (-1 ≤ a.proc) && decide (a.proc ≤ 15) && decide (0 ≤ a.bad) && decide (a.bad ≤ 5) && pset a.reads && pset a.writes && decide (0 ≤ a.to) && decide (a.to < size) && (a.bad == 0 || a.to == 0)
def total (n : PNet) : Nat := (n.map fun x => x.arcs.length).sum
def chk (n : PNet) : Bool := decide (1 ≤ n.length) && decide (n.length ≤ 20000) && n.all (fun x => x.arcs.all (chkArc n.length)) && decide (total n ≤ 262144)

theorem badFn (b : Int) (w : World) : Calls Try.prog 37 #[.int .i64 b] w fun e w' => e = .returned (.bool (decide (b < 0) || decide (5 < b))) ∧ w' = w := by
  by_cases h1 : b < 0
  · have d1 : decide (b < 0) = true := decide_eq_true h1
    go_enter Try.func37, Try.ntmps37
    go_wp2
    go_ret
    exact ⟨by simp [h1], rfl⟩
  · have d1 : decide (b < 0) = false := decide_eq_false h1
    by_cases h2 : 5 < b
    · have d2 : decide (5 < b) = true := decide_eq_true h2
      go_enter Try.func37, Try.ntmps37
      go_wp2
      go_ret
      exact ⟨rfl, rfl⟩
    · have d2 : decide (5 < b) = false := decide_eq_false h2
      go_enter Try.func37, Try.ntmps37
      go_wp2
      go_ret
      exact ⟨rfl, rfl⟩
def SetPost (l : List Int) (w : World) (e : Ending) (w' : World) : Prop := e = .returned (.bool (pset l)) ∧ Below w.heap.size w w'
set_option maxHeartbeats 1000000 in
set_option maxRecDepth 100000 in
theorem setFn {P : Nat → Prop} {w : World} {l : List Int} {v : Value} (h : RowL P w 1 v l.length (l.map intV)) (hl : l.length ≤ 2000000) : Calls Try.prog 38 #[v] w (SetPost l w) := by
  obtain ⟨a, c, rfl, hc1, _, _⟩ := h.form
  obtain ⟨N, hN⟩ : ∃ N, l.length = N := ⟨_, rfl⟩
  have H := Lib.hid h
  have HN := Lib.hid hN
  rw [hN] at hl hc1 ⊢
  clear h hN
  go_enter Try.func38, Try.ntmps38
  go_wp2
  go_loopw [7] (fun x wr => ∃ k : Nat, x = .int .i64 (k : Int) ∧ k ≤ N ∧ Hid (∀ i, i < k → setAt l i = true) ∧ Hid (Below w.heap.size w wr)) (fun x _ => N - (intOf x).toNat)
  case atStart => exact ⟨0, rfl, Nat.zero_le _, fun i hi => by omega, Below.refl _ _⟩
  case round =>
    obtain ⟨k, hx, hk, HS, HB⟩ := hrel
    subst hx
    by_cases hkn : k < N
    · have hk2 : (k : Int) < (N : Int) := by omega
      have hk0 : (0 : Int) ≤ (k : Int) := by omega
      have hwk : IntKind.i64.wrap (k : Int) = (k : Int) := by rw [IntKind.wrap_i64]; omega
      have hwk1 : IntKind.i64.wrap ((k : Int) + 1) = (k : Int) + 1 := by rw [IntKind.wrap_i64]; omega
      have hil : k < l.length := by rw [HN.out]; exact hkn
      obtain ⟨g1, o1, y1, x1, he1, hf1, hd1⟩ := (H.out.up (Keep.below HB.out)).at1 hil
      injection he1 with he1 _ he1'
      subst he1 he1'
      rw [List.getElem?_map, List.getElem?_eq_getElem hil] at hf1
      injection hf1 with hf1
      subst hf1
      unfold intV at hd1
      obtain ⟨y, hy⟩ : ∃ y, l[k] = y := ⟨_, rfl⟩
      have HY := Lib.hid hy
      rw [hy] at hd1
      have HIL := Lib.hid hil
      clear hy
      by_cases h0 : y < 0
      · have d0 : decide (y < 0) = true := decide_eq_true h0
        go_wp2
        clear d0
        have HF : Hid (SetPost l w (.returned (.bool false)) wr) := by
          refine ⟨?_, HB.out⟩
          rw [pset_no hil (setAt_neg hil (.inl (by rw [HY.out]; exact h0)))]
        clear HS HY
        go_wp2
        go_ret
        exact HF.out
      · have d0 : decide (y < 0) = false := decide_eq_false h0
        by_cases hk1 : 0 < k
        · have hwm : IntKind.i64.wrap ((k : Int) - 1) = ((k - 1 : Nat) : Int) := by rw [IntKind.wrap_i64]; omega
          obtain ⟨p, hp⟩ : ∃ p, k - 1 = p := ⟨_, rfl⟩
          rw [hp] at hwm
          have hp0 : (0 : Int) ≤ (p : Int) := by omega
          have hp2 : (p : Int) < (N : Int) := by omega
          have hwp : IntKind.i64.wrap (p : Int) = (p : Int) := by rw [IntKind.wrap_i64]; omega
          have hpl : p < l.length := by rw [HN.out]; omega
          obtain ⟨g2, o2, y2, x2, he2, hf2, hd2⟩ := (H.out.up (Keep.below HB.out)).at1 hpl
          injection he2 with he2 _ he2'
          injection he2 with he2
          injection he2 with he2 he3
          subst he2 he3
          rw [List.getElem?_map, List.getElem?_eq_getElem hpl] at hf2
          injection hf2 with hf2
          subst hf2
          unfold intV at hd2
          obtain ⟨z, hz⟩ : ∃ z, l[p] = z := ⟨_, rfl⟩
          have HZ := Lib.hid (show ∃ h' : k - 1 < l.length, l[k - 1] = z from by subst hp; exact ⟨hpl, hz⟩)
          rw [hz] at hd2
          clear hz hpl he2' hp
          by_cases hyz : y ≤ z
          · have d1 : decide (y ≤ z) = true := decide_eq_true hyz
            go_wp2
            clear d0
            have HF : Hid (SetPost l w (.returned (.bool false)) wr) := by
              refine ⟨?_, HB.out⟩
              rw [pset_no hil (setAt_neg hil (.inr ⟨hk1, by obtain ⟨h', hz⟩ := HZ.out; exact ⟨h', by rw [HY.out, hz]; exact hyz⟩⟩))]
            clear HS HY HZ
            go_wp2
            go_ret
            exact HF.out
          · have d1 : decide (y ≤ z) = false := decide_eq_false hyz
            have HS2 : Hid (∀ i, i < k + 1 → setAt l i = true) := fun i hi => by
              rcases Nat.lt_or_ge i k with h | h
              · exact HS.out i h
              · obtain rfl : i = k := by omega
                obtain ⟨h', hz⟩ := HZ.out
                exact setAt_pos HIL.out (by rw [HY.out]; omega) (.inr ⟨h', by rw [HY.out, hz]; omega⟩)
            clear HS HY HZ
            go_wp2
            have HBn : Hid (Below w.heap.size w wr) := HB.out
            go_wp2
            refine ⟨⟨k + 1, by simp, by omega, HS2, HBn⟩, ?_⟩
            simp [intOf]
            omega
        · have HS2 : Hid (∀ i, i < k + 1 → setAt l i = true) := fun i hi => by
            rcases Nat.lt_or_ge i k with h | h
            · exact HS.out i h
            · obtain rfl : i = k := by omega
              exact setAt_pos HIL.out (by rw [HY.out]; omega) (.inl (by omega))
          clear HS HY
          go_wp2
          have HBn : Hid (Below w.heap.size w wr) := HB.out
          go_wp2
          refine ⟨⟨k + 1, by simp, by omega, HS2, HBn⟩, ?_⟩
          simp [intOf]
          omega
    · have hk3 : k = N := by omega
      subst hk3
      have HF : Hid (SetPost l w (.returned (.bool true)) wr) := ⟨by rw [pset_yes fun i hi => HS.out i (by rw [← HN.out]; exact hi)], HB.out⟩
      clear HS
      go_wp2
      go_ret
      exact HF.out
end Go.Proofs.Ytpednhcfkjjcpaa
