/- An automaton whose sets are turned move by move; one with a beginning alone. -/
import Derived.Test.YtelanndleinabaaDoorRAccS
namespace Go.Proofs.YtelanndleinabaaDoor
open Go.RowKit
set_option linter.unusedVariables false

section
variable {adj : Adj} {f : Nat → Nat}
/-- The same steps, with other sets. -/
def mapAdj (f : Nat → Nat) (adj : Adj) : Adj := fun p => (adj p).map fun e => (e.1, f e.2)
theorem rch_map {x y : Nat} : Rch (mapAdj f adj) x y ↔ Rch adj x y := by
  constructor
  · intro h
    induction h with
    | refl => exact .refl
    | tail _ he ih =>
      obtain ⟨e0, h0, rfl⟩ := List.mem_map.1 he
      exact Rch.tail (e := e0) ih h0
  · intro h
    induction h with
    | refl => exact .refl
    | @tail y e _ he ih => exact ih.tail (e := (e.1, f e.2)) (List.mem_map.2 ⟨e, he, rfl⟩)
theorem scc_map {x : Nat} {e' : Nat × Nat} : inScc (mapAdj f adj) x e' ↔ ∃ e, inScc adj x e ∧ e' = (e.1, f e.2) := by
  constructor
  · rintro ⟨k, ⟨k1, k2⟩, he, e1, e2⟩
    obtain ⟨e0, h0, rfl⟩ := List.mem_map.1 he
    exact ⟨e0, ⟨k, ⟨rch_map.1 k1, rch_map.1 k2⟩, h0, rch_map.1 e1, rch_map.1 e2⟩, rfl⟩
  · rintro ⟨e, ⟨k, ⟨k1, k2⟩, he, e1, e2⟩, rfl⟩
    exact ⟨k, ⟨rch_map.2 k1, rch_map.2 k2⟩, List.mem_map.2 ⟨e, he, rfl⟩, rch_map.2 e1, rch_map.2 e2⟩
end
def mapM (f : Nat → Nat) (m : Mv) : Mv := ⟨m.yes, m.no, m.to, f m.sets⟩
/-- .. an automaton so. -/
def mapG (f : Nat → Nat) (s : Int) (g : Gen) : Gen := ⟨s, g.init, g.states.map (List.map (mapM f))⟩
theorem stepsOf_mapG (f : Nat → Nat) (s : Int) (g : Gen) (l : Las) : stepsOf (mapG f s g) l = mapAdj f (stepsOf g l) := by
  funext p
  unfold mapAdj stepsOf mapG
  simp only [List.length_map]
  have hg : (g.states.map (List.map (mapM f))).getD (p % g.states.length) [] = (g.states.getD (p % g.states.length) []).map (mapM f) := by
    rw [List.getD_eq_getElem?_getD, List.getD_eq_getElem?_getD, List.getElem?_map]
    cases g.states[p % g.states.length]? <;> rfl
  rw [hg]
  unfold stepsIn
  rw [List.filter_map, List.map_map, List.map_map]
  rfl
theorem sum_mapG (f : Nat → Nat) (s : Int) (g : Gen) : ((mapG f s g).states.map List.length).sum = (g.states.map List.length).sum := by
  unfold mapG
  simp only [List.map_map]
  congr 1
  refine List.map_congr_left fun x _ => ?_
  simp
/-- It may be, where its sets do. -/
theorem genOk_mapG {f : Nat → Nat} {g : Gen} {S : Nat} (h : genOk g = true) (hS : S ≤ 60) (hf : ∀ ms ∈ g.states, ∀ m ∈ ms, m.sets < 2 ^ g.sets.toNat → f m.sets < 2 ^ S) : genOk (mapG f (S : Int) g) = true := by
  have hsum := sum_mapG f (S : Int) g
  unfold genOk at h ⊢
  simp only [Bool.and_eq_true, decide_eq_true_eq] at h ⊢
  obtain ⟨⟨⟨⟨h1, h2, h3, h4⟩, hi⟩, hm⟩, ht⟩ := h
  have hl : (mapG f (S : Int) g).states.length = g.states.length := by simp [mapG]
  refine ⟨⟨⟨⟨by show (0 : Int) ≤ S; omega, by show (S : Int) ≤ 60; omega, by rw [hl]; exact h3, h4⟩, ?_⟩, ?_⟩, by rw [hsum]; exact ht⟩
  · rw [hl]; exact hi
  · rw [hl]
    rw [List.all_eq_true]
    intro ms hms
    obtain ⟨ms0, h0, rfl⟩ := List.mem_map.1 hms
    rw [List.all_eq_true]
    intro m hmm
    obtain ⟨m0, hm0, rfl⟩ := List.mem_map.1 hmm
    have hk := List.all_eq_true.1 (List.all_eq_true.1 hm ms0 h0) m0 hm0
    unfold mvOk at hk ⊢
    simp only [Bool.and_eq_true, beq_iff_eq] at hk ⊢
    refine ⟨hk.1, ?_⟩
    show f m0.sets / 2 ^ (S : Int).toNat = 0
    have hlt : m0.sets < 2 ^ g.sets.toNat := by
      have := hk.2
      exact (Nat.div_eq_zero_iff.1 this).resolve_left (by have := Nat.two_pow_pos g.sets.toNat; omega)
    rw [Int.toNat_natCast]
    exact Nat.div_eq_of_lt (hf ms0 h0 m0 hm0 hlt)
theorem genOk_sets {g : Gen} (h : genOk g = true) : ∀ ms ∈ g.states, ∀ m ∈ ms, m.sets < 2 ^ g.sets.toNat := by
  intro ms h0 m hm0
  unfold genOk at h
  simp only [Bool.and_eq_true, decide_eq_true_eq] at h
  have hk := List.all_eq_true.1 (List.all_eq_true.1 h.1.2 ms h0) m hm0
  unfold mvOk at hk
  simp only [Bool.and_eq_true, beq_iff_eq] at hk
  exact (Nat.div_eq_zero_iff.1 hk.2).resolve_left (by have := Nat.two_pow_pos g.sets.toNat; omega)
theorem steps_sets {g : Gen} {l : Las} (h : genOk g = true) {p : Nat} {e : Nat × Nat} (he : e ∈ stepsOf g l p) : e.2 < 2 ^ g.sets.toNat := by
  unfold stepsOf stepsIn at he
  obtain ⟨m, hm, rfl⟩ := List.mem_map.1 he
  have hm' := (List.mem_filter.1 hm).1
  rw [List.getD_eq_getElem?_getD] at hm'
  cases hq : g.states[p % g.states.length]? with
  | none => rw [hq] at hm'; cases hm'
  | some ms =>
    rw [hq, Option.getD_some] at hm'
    exact genOk_sets h ms (List.mem_of_getElem? hq) m hm'

/-! A set less. -/
def clr (k a : Nat) : Nat := a &&& (18446744073709551615 - 2 ^ k)
theorem clr_bit {k : Nat} (hk : k < 64) {a : Nat} (ha : a < 2 ^ (k + 1)) (j : Nat) : (clr k a).testBit j = true ↔ a.testBit j = true ∧ j ≠ k := by
  have hlt : 2 ^ k < 2 ^ 64 := Nat.pow_lt_pow_right (by omega) hk
  unfold clr
  rw [Nat.testBit_and, show 18446744073709551615 - 2 ^ k = 2 ^ 64 - (2 ^ k + 1) by
    have : (2 : Nat) ^ 64 = 18446744073709551616 := by decide
    omega, Nat.testBit_two_pow_sub_succ hlt, Nat.testBit_two_pow]
  simp only [Bool.and_eq_true, decide_eq_true_eq, Bool.not_eq_true', decide_eq_false_iff_not]
  constructor
  · rintro ⟨h1, _, h2⟩; exact ⟨h1, fun h => h2 h.symm⟩
  · rintro ⟨h1, h2⟩
    refine ⟨h1, ?_, fun h => h2 h.symm⟩
    rcases Nat.lt_or_ge j 64 with h | h
    · exact h
    · have : a < 2 ^ j := Nat.lt_of_lt_of_le ha (Nat.pow_le_pow_right (by omega) (by omega))
      rw [Nat.testBit_lt_two_pow this] at h1
      cases h1
theorem clr_lt {k : Nat} (hk : k < 64) {a : Nat} (ha : a < 2 ^ (k + 1)) : clr k a < 2 ^ k := by
  refine Nat.lt_pow_two_of_testBit _ fun j hj => ?_
  rw [Bool.eq_false_iff]
  intro h
  obtain ⟨h1, h2⟩ := (clr_bit hk ha j).1 h
  have : a < 2 ^ j := Nat.lt_of_lt_of_le ha (Nat.pow_le_pow_right (by omega) (by omega))
  rw [Nat.testBit_lt_two_pow this] at h1
  cases h1
theorem genOk_less {g : Gen} {k : Nat} (h : genOk g = true) (hs : g.sets = (k : Int) + 1) : genOk (mapG (clr k) (k : Int) g) = true := by
  have h60 := (genOk_parts h).1.2.1
  refine genOk_mapG h (by omega) fun ms _ m _ hlt => clr_lt (by omega) ?_
  rw [show g.sets.toNat = k + 1 by omega] at hlt
  exact hlt
theorem accP_less {g : Gen} {l : Las} {k : Nat} (h : genOk g = true) (hs : g.sets = (k : Int) + 1) (ha : accP g l) : accP (mapG (clr k) (k : Int) g) l := by
  have h60 := (genOk_parts h).1.2.1
  have hk : g.sets.toNat = k + 1 := by omega
  obtain ⟨s, hs', y, hr, ⟨e0, he0⟩, hb⟩ := ha
  rw [hk] at hb
  refine ⟨s, hs', y, ?_, ?_⟩
  · rw [stepsOf_mapG]; exact rch_map.2 hr
  · rw [stepsOf_mapG]
    show goodP _ (2 ^ (k : Int).toNat - 1) y
    rw [Int.toNat_natCast]
    have hlt : ∀ e, inScc (stepsOf g l) y e → e.2 < 2 ^ (k + 1) := fun e he => by
      obtain ⟨_, _, hm, _⟩ := he
      have := steps_sets h hm
      rwa [hk] at this
    refine ⟨⟨_, scc_map.2 ⟨e0, he0, rfl⟩⟩, fun j => ?_⟩
    rw [Nat.testBit_two_pow_sub_one]
    constructor
    · intro hj
      have hj' := of_decide_eq_true hj
      obtain ⟨e, he, hbit⟩ := (hb j).1 (by rw [Nat.testBit_two_pow_sub_one]; exact decide_eq_true (by omega))
      exact ⟨_, scc_map.2 ⟨e, he, rfl⟩, (clr_bit (by omega) (hlt e he) j).2 ⟨hbit, by omega⟩⟩
    · rintro ⟨e', he', hbit⟩
      obtain ⟨e, he, rfl⟩ := scc_map.1 he'
      obtain ⟨b1, b2⟩ := (clr_bit (by omega) (hlt e he) j).1 hbit
      have := (hb j).2 ⟨e, he, b1⟩
      rw [Nat.testBit_two_pow_sub_one] at this
      have := of_decide_eq_true this
      exact decide_eq_true (by omega)

/-! A beginning alone. -/
def oneG (g : Gen) (s : Int) : Gen := ⟨g.sets, [s], g.states⟩
theorem genOk_one {g : Gen} {s : Int} (h : genOk g = true) (hs : s ∈ g.init) : genOk (oneG g s) = true := by
  unfold genOk at h ⊢
  simp only [Bool.and_eq_true, decide_eq_true_eq] at h ⊢
  obtain ⟨⟨⟨⟨h1, h2, h3, h4⟩, hi⟩, hm⟩, ht⟩ := h
  exact ⟨⟨⟨⟨h1, h2, h3, by show ([s] : List Int).length ≤ 4096; simp⟩, by
    show List.all [s] (inR g.states.length) = true
    simpa using List.all_eq_true.1 hi s hs⟩, hm⟩, ht⟩
theorem accP_one {g : Gen} {l : Las} : accP g l ↔ ∃ s ∈ g.init, accP (oneG g s) l := by
  constructor
  · rintro ⟨s, hs, y, h⟩; exact ⟨s, hs, s, by simp [oneG], y, h⟩
  · rintro ⟨s, hs, s', hs', y, h⟩
    have : s' = s := by simpa [oneG] using hs'
    subst this
    exact ⟨s', hs, y, h⟩
end Go.Proofs.YtelanndleinabaaDoor
