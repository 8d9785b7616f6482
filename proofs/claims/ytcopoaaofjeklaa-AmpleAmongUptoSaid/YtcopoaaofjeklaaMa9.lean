/- Set, Chk, joined. -/
import Derived.Test.YtcopoaaofjeklaaNet
import Derived.Deep.DeepCutAuto
section
/- Sets of numbers; which graphs may be: plain; the walks of set, bad, Set. -/
namespace Go.Proofs.Ytcopoaaofjeklaa
open Go.RowKit
set_option linter.unusedVariables false
set_option linter.unusedSimpArgs false

def setAt (l : List Int) (i : Nat) : Bool := decide (0 ≤ l.getD i 0) && (i == 0 || decide (l.getD (i - 1) 0 < l.getD i 0))
/-- From 0 on, rising. -/
def pset (l : List Int) : Bool := (List.range l.length).all (setAt l)
theorem pset_no {l : List Int} {i : Nat} (hi : i < l.length) (h : setAt l i = false) : pset l = false := by
  cases hp : pset l with
  | false => rfl
  | true =>
    have := List.all_eq_true.1 hp i (List.mem_range.2 hi)
    rw [h] at this; cases this
theorem pset_yes {l : List Int} (h : ∀ i, i < l.length → setAt l i = true) : pset l = true := List.all_eq_true.2 fun i hi => h i (List.mem_range.1 hi)
theorem setAt_pos {l : List Int} {i : Nat} (h : i < l.length) (h0 : 0 ≤ l[i]) (h1 : i = 0 ∨ ∃ h' : i - 1 < l.length, l[i - 1] < l[i]) : setAt l i = true := by
  unfold setAt
  rw [List.getD_eq_getElem?_getD, List.getElem?_eq_getElem h]
  rcases h1 with h1 | ⟨h', h1⟩
  · subst h1
    simpa using h0
  · rw [List.getD_eq_getElem?_getD, List.getElem?_eq_getElem h']
    simp [h0, h1]
theorem setAt_neg {l : List Int} {i : Nat} (h : i < l.length) (h1 : l[i] < 0 ∨ 0 < i ∧ ∃ h' : i - 1 < l.length, l[i] ≤ l[i - 1]) : setAt l i = false := by
  unfold setAt
  rw [List.getD_eq_getElem?_getD, List.getElem?_eq_getElem h]
  rcases h1 with h1 | ⟨h0, h', h1⟩
  · simp; omega
  · rw [List.getD_eq_getElem?_getD, List.getElem?_eq_getElem h']
    have : (i == 0) = false := by simp; omega
    simp [this]
    intro _; omega
def chkArc (size : Nat) (a : PArc) : Bool := decide (-1 ≤ a.proc) && decide (a.proc ≤ 15) && decide (0 ≤ a.bad) && decide (a.bad ≤ 5) && pset a.reads && pset a.writes && decide (0 ≤ a.to) && decide (a.to < size) && (a.bad == 0 || a.to == 0)
def total (n : PNet) : Nat := (n.map fun x => x.arcs.length).sum
def chk (n : PNet) : Bool := decide (1 ≤ n.length) && decide (n.length ≤ 20000) && n.all (fun x => x.arcs.all (chkArc n.length)) && decide (total n ≤ 262144)

theorem badFn (b : Int) (w : World) : Calls Try.prog 29 #[.int .i64 b] w fun e w' => e = .returned (.bool (decide (b < 0) || decide (5 < b))) ∧ w' = w := by
  by_cases h1 : b < 0
  · have d1 : decide (b < 0) = true := decide_eq_true h1
    go_enter Try.func29, Try.ntmps29
    go_wp2
    go_ret
    exact ⟨by simp [h1], rfl⟩
  · have d1 : decide (b < 0) = false := decide_eq_false h1
    by_cases h2 : 5 < b
    · have d2 : decide (5 < b) = true := decide_eq_true h2
      go_enter Try.func29, Try.ntmps29
      go_wp2
      go_ret
      exact ⟨rfl, rfl⟩
    · have d2 : decide (5 < b) = false := decide_eq_false h2
      go_enter Try.func29, Try.ntmps29
      go_wp2
      go_ret
      exact ⟨rfl, rfl⟩
def SetPost (l : List Int) (w : World) (e : Ending) (w' : World) : Prop := e = .returned (.bool (pset l)) ∧ Below w.heap.size w w'
end Go.Proofs.Ytcopoaaofjeklaa
end
section
/- The walk of net.Check (printed by mkchk.py). -/
namespace Go.Proofs.Ytcopoaaofjeklaa
open Go.RowKit
set_option linter.unusedVariables false
set_option linter.unusedSimpArgs false

theorem total_take {n : PNet} {k : Nat} (h : k < n.length) : total (n.take (k + 1)) = total (n.take k) + n[k].arcs.length := by
  unfold total
  rw [List.take_add_one, List.getElem?_eq_getElem h]
  simp only [Option.toList_some, List.map_append, List.sum_append, List.map_cons, List.map_nil, List.sum_cons, List.sum_nil, Nat.add_zero]
theorem total_le {n : PNet} {k : Nat} : total (n.take k) ≤ total n := by
  unfold total
  conv => rhs; rw [← List.take_append_drop k n]
  simp only [List.map_append, List.sum_append]
  exact Nat.le_add_right _ _
theorem node_le {n : PNet} {k : Nat} (h : k < n.length) : n[k].arcs.length ≤ total n := by
  have h1 := total_take h
  have h2 := total_le (n := n) (k := k + 1)
  omega
theorem chk_false {n : PNet} {i j : Nat} (hi : i < n.length) (hj : j < n[i].arcs.length) (h : chkArc n.length n[i].arcs[j] = false) : chk n = false := by
  cases hc : chk n with
  | false => rfl
  | true =>
    unfold chk at hc
    simp only [Bool.and_eq_true] at hc
    have h1 := List.all_eq_true.1 hc.1.2 n[i] (List.getElem_mem hi)
    have h2 := List.all_eq_true.1 h1 _ (List.getElem_mem hj)
    rw [h] at h2; cases h2
theorem chk_size {n : PNet} (h : n.length < 1 ∨ 20000 < n.length) : chk n = false := by
  unfold chk
  rcases h with h | h
  · have : decide (1 ≤ n.length) = false := decide_eq_false (by omega)
    simp [this]
  · have : decide (n.length ≤ 20000) = false := decide_eq_false (by omega)
    simp [this]
/-- What is asked of a graph's lengths. -/
structure Small (n : PNet) : Prop where
  nodes : n.length ≤ 2000000
  arcs : total n ≤ 2000000
  reads : ∀ (i : Nat) (hi : i < n.length) (j : Nat) (hj : j < n[i].arcs.length), n[i].arcs[j].reads.length ≤ 2000000 ∧ n[i].arcs[j].writes.length ≤ 2000000
def errC (b : Bool) : Value := .int .i64 (if b then 0 else 150)
def ChkPost (n : PNet) (w : World) (e : Ending) (w' : World) : Prop := e = .returned (errC (chk n)) ∧ Below w.heap.size w w'
end Go.Proofs.Ytcopoaaofjeklaa
end
