/- A set more; a move twice. -/
import Derived.Test.YtelanndleinabaaDoorEitS
namespace Go.Proofs.YtelanndleinabaaDoor
open Go.RowKit
set_option linter.unusedVariables false

def setb (k a : Nat) : Nat := a ||| 2 ^ k
theorem setb_bit (k a j : Nat) : (setb k a).testBit j = true ↔ a.testBit j = true ∨ j = k := by
  unfold setb
  rw [Nat.testBit_or, Nat.testBit_two_pow, Bool.or_eq_true, decide_eq_true_eq]
  exact ⟨fun h => h.imp id Eq.symm, fun h => h.imp id Eq.symm⟩
theorem setb_lt {k a : Nat} (ha : a < 2 ^ k) : setb k a < 2 ^ (k + 1) :=
  Nat.or_lt_two_pow (Nat.lt_of_lt_of_le ha (Nat.pow_le_pow_right (by omega) (by omega))) (Nat.pow_lt_pow_right (by omega) (by omega))
theorem genOk_more {g : Gen} {k : Nat} (h : genOk g = true) (hs : g.sets = (k : Int)) (hk : k < 60) : genOk (mapG (setb k) ((k + 1 : Nat) : Int) g) = true :=
  genOk_mapG h (by omega) fun ms _ m _ hlt => setb_lt (by rw [hs, Int.toNat_natCast] at hlt; exact hlt)
theorem accP_more {g : Gen} {l : Las} {k : Nat} (h : genOk g = true) (hs : g.sets = (k : Int)) : accP (mapG (setb k) ((k + 1 : Nat) : Int) g) l ↔ accP g l := by
  have hlt : ∀ y e, inScc (stepsOf g l) y e → e.2 < 2 ^ k := fun y e he => by
    obtain ⟨_, _, hm, _⟩ := he
    have := steps_sets h hm
    rwa [hs, Int.toNat_natCast] at this
  have hg : ∀ y, goodP (mapAdj (setb k) (stepsOf g l)) (2 ^ (k + 1) - 1) y ↔ goodP (stepsOf g l) (2 ^ k - 1) y := fun y => by
    constructor
    · rintro ⟨⟨e', he'⟩, hb⟩
      obtain ⟨e, he, rfl⟩ := scc_map.1 he'
      refine ⟨⟨e, he⟩, fun j => ?_⟩
      rw [Nat.testBit_two_pow_sub_one]
      constructor
      · intro hj
        have hj' := of_decide_eq_true hj
        obtain ⟨f', hf', hbit⟩ := (hb j).1 (by rw [Nat.testBit_two_pow_sub_one]; exact decide_eq_true (by omega))
        obtain ⟨f, hf, rfl⟩ := scc_map.1 hf'
        exact ⟨f, hf, ((setb_bit k f.2 j).1 hbit).resolve_right (by omega)⟩
      · rintro ⟨f, hf, hbit⟩
        refine decide_eq_true ?_
        rcases Nat.lt_or_ge j k with hj | hj
        · exact hj
        · rw [Nat.testBit_lt_two_pow (Nat.lt_of_lt_of_le (hlt y f hf) (Nat.pow_le_pow_right (by omega) hj))] at hbit
          cases hbit
    · rintro ⟨⟨e, he⟩, hb⟩
      refine ⟨⟨_, scc_map.2 ⟨e, he, rfl⟩⟩, fun j => ?_⟩
      rw [Nat.testBit_two_pow_sub_one]
      constructor
      · intro hj
        have hj' := of_decide_eq_true hj
        by_cases hjk : j = k
        · exact ⟨_, scc_map.2 ⟨e, he, rfl⟩, (setb_bit k e.2 j).2 (.inr hjk)⟩
        · obtain ⟨f, hf, hbit⟩ := (hb j).1 (by rw [Nat.testBit_two_pow_sub_one]; exact decide_eq_true (by omega))
          exact ⟨_, scc_map.2 ⟨f, hf, rfl⟩, (setb_bit k f.2 j).2 (.inl hbit)⟩
      · rintro ⟨f', hf', hbit⟩
        obtain ⟨f, hf, rfl⟩ := scc_map.1 hf'
        refine decide_eq_true ?_
        rcases (setb_bit k f.2 j).1 hbit with h1 | h1
        · have := (hb j).2 ⟨f, hf, h1⟩
          rw [Nat.testBit_two_pow_sub_one] at this
          have := of_decide_eq_true this
          omega
        · omega
  unfold accP
  rw [stepsOf_mapG, hs, Int.toNat_natCast]
  show (∃ s ∈ g.init, ∃ y, Rch (mapAdj (setb k) (stepsOf g l)) s.toNat y ∧ goodP (mapAdj (setb k) (stepsOf g l)) (2 ^ ((k + 1 : Nat) : Int).toNat - 1) y) ↔ _
  rw [Int.toNat_natCast]
  constructor
  · rintro ⟨s, hs, y, h1, h2⟩; exact ⟨s, hs, y, rch_map.1 h1, (hg y).1 h2⟩
  · rintro ⟨s, hs, y, h1, h2⟩; exact ⟨s, hs, y, rch_map.2 h1, (hg y).2 h2⟩

/-! Each move twice. -/
def dup (m : Mv) : List Mv := [m, m]
def twiceG (g : Gen) : Gen := ⟨g.sets, g.init, g.states.map (List.flatMap dup)⟩
theorem rch_ext {a b : Adj} (h : ∀ p e, e ∈ a p ↔ e ∈ b p) {x y : Nat} (k : Rch a x y) : Rch b x y := by
  induction k with
  | refl => exact .refl
  | tail _ he ih => exact ih.tail ((h _ _).1 he)
theorem scc_ext {a b : Adj} (h : ∀ p e, e ∈ a p ↔ e ∈ b p) {x : Nat} {e : Nat × Nat} (k : inScc a x e) : inScc b x e := by
  obtain ⟨j, ⟨j1, j2⟩, he, e1, e2⟩ := k
  exact ⟨j, ⟨rch_ext h j1, rch_ext h j2⟩, (h _ _).1 he, rch_ext h e1, rch_ext h e2⟩
theorem good_ext {a b : Adj} (h : ∀ p e, e ∈ a p ↔ e ∈ b p) {S x : Nat} (k : goodP a S x) : goodP b S x := by
  have h' : ∀ p e, e ∈ b p ↔ e ∈ a p := fun p e => (h p e).symm
  obtain ⟨⟨e, he⟩, hb⟩ := k
  exact ⟨⟨e, scc_ext h he⟩, fun j => (hb j).trans ⟨fun ⟨e, h1, h2⟩ => ⟨e, scc_ext h h1, h2⟩, fun ⟨e, h1, h2⟩ => ⟨e, scc_ext h' h1, h2⟩⟩⟩
theorem mem_dup {ms : List Mv} {m : Mv} : m ∈ ms.flatMap dup ↔ m ∈ ms := by
  rw [List.mem_flatMap]
  constructor
  · rintro ⟨x, hx, h⟩
    have : m = x := by simpa [dup] using h
    subst this; exact hx
  · intro h; exact ⟨m, h, by simp [dup]⟩
theorem twice_mem {g : Gen} {l : Las} (p : Nat) (e : Nat × Nat) : e ∈ stepsOf (twiceG g) l p ↔ e ∈ stepsOf g l p := by
  unfold stepsOf twiceG
  simp only [List.length_map]
  have hg : (g.states.map (List.flatMap dup)).getD (p % g.states.length) [] = (g.states.getD (p % g.states.length) []).flatMap dup := by
    rw [List.getD_eq_getElem?_getD, List.getD_eq_getElem?_getD, List.getElem?_map]
    cases g.states[p % g.states.length]? <;> rfl
  rw [hg]
  unfold stepsIn
  simp only [List.mem_map, List.mem_filter, mem_dup]
theorem accP_twice {g : Gen} {l : Las} : accP (twiceG g) l ↔ accP g l := by
  constructor
  · rintro ⟨s, hs, y, h1, h2⟩; exact ⟨s, hs, y, rch_ext twice_mem h1, good_ext twice_mem h2⟩
  · rintro ⟨s, hs, y, h1, h2⟩; exact ⟨s, hs, y, rch_ext (fun p e => (twice_mem p e).symm) h1, good_ext (fun p e => (twice_mem p e).symm) h2⟩
theorem dup_len : ∀ ms : List Mv, (ms.flatMap dup).length = 2 * ms.length
  | [] => rfl
  | m :: ms => by rw [List.flatMap_cons, List.length_append, dup_len ms]; simp [dup]; omega
theorem sum_twice (g : Gen) : ((twiceG g).states.map List.length).sum = 2 * (g.states.map List.length).sum := by
  unfold twiceG
  simp only [List.map_map]
  induction g.states with
  | nil => rfl
  | cons x xs ih =>
    simp only [List.map_cons, List.sum_cons, Function.comp_def] at ih ⊢
    rw [ih, dup_len]
    omega
theorem genOk_sum {g : Gen} (h : genOk g = true) : (g.states.map List.length).sum ≤ 131072 := by
  unfold genOk at h
  simp only [Bool.and_eq_true, decide_eq_true_eq] at h
  exact h.2
/-- A row of another row's type grows. -/
theorem OwnG.kept {B base n : Nat} {w w' : World} {v x : Value} {ms : List (List Mv)} {ys : List Value} (h : OwnG B w v ms) (ho : w.ownsRow base 48 1 x n ys) (hg : w.grownBy w' x.ownBlock) (hd : v.ownBlock = none ∨ v.ownBlock ≠ x.ownBlock) : OwnG B w' v ms := by
  obtain ⟨us, k1, k2⟩ := h
  exact ⟨us, k1.kept hg hd, fun i hi => let ⟨u, a, b, c⟩ := k2 i hi; ⟨u, a, b.kept hg (own_pair b ho (by decide)), c⟩⟩
end Go.Proofs.YtelanndleinabaaDoor
