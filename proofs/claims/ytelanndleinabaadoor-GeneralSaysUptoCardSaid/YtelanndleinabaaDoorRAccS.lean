/- What the reference's search adds up. -/
import Derived.Test.YtelanndleinabaaDoorPairs
import Derived.Test.YtelanndleinabaaDoorBfs
import Derived.Test.YtelanndleinabaaDoorRChk
namespace Go.Proofs.YtelanndleinabaaDoor
open Go.RowKit
set_option linter.unusedVariables false

/-- The bits that the pairs below k bring. -/
def upTo (adj : Adj) (i k b : Nat) : Prop := ∃ k', k' < k ∧ (∃ e0 ∈ adj i, Rch adj e0.1 k') ∧ Rch adj k' i ∧ ∃ e ∈ adj k', Rch adj e.1 i ∧ e.2.testBit b = true
/-- .. and those that the first j moves of k bring. -/
def partTo (adj : Adj) (i k j b : Nat) : Prop := ∃ j', j' < j ∧ ∃ e, (adj k)[j']? = some e ∧ Rch adj e.1 i ∧ e.2.testBit b = true
theorem upTo_zero {adj : Adj} {i b : Nat} : ¬ upTo adj i 0 b := fun ⟨_, h, _⟩ => by omega
theorem upTo_skip {adj : Adj} {i k b : Nat} (h : ¬ ∃ e0 ∈ adj i, Rch adj e0.1 k) : upTo adj i (k + 1) b ↔ upTo adj i k b := by
  constructor
  · rintro ⟨k', h1, h2, h3, h4⟩
    by_cases he : k' = k
    · subst he; exact (h h2).elim
    · exact ⟨k', by omega, h2, h3, h4⟩
  · rintro ⟨k', h1, h2, h3, h4⟩; exact ⟨k', by omega, h2, h3, h4⟩
theorem upTo_none {adj : Adj} {i k b : Nat} (h : ¬ Rch adj k i) : upTo adj i (k + 1) b ↔ upTo adj i k b := by
  constructor
  · rintro ⟨k', h1, h2, h3, h4⟩
    by_cases he : k' = k
    · subst he; exact (h h3).elim
    · exact ⟨k', by omega, h2, h3, h4⟩
  · rintro ⟨k', h1, h2, h3, h4⟩; exact ⟨k', by omega, h2, h3, h4⟩
theorem upTo_all {adj : Adj} {i k b : Nat} (h : ∃ e0 ∈ adj i, Rch adj e0.1 k) (h' : Rch adj k i) : upTo adj i (k + 1) b ↔ upTo adj i k b ∨ partTo adj i k (adj k).length b := by
  constructor
  · rintro ⟨k', h1, h2, h3, e, h4, h5⟩
    by_cases he : k' = k
    · subst he
      obtain ⟨j, hj, hje⟩ := List.getElem_of_mem h4
      exact .inr ⟨j, hj, e, by rw [List.getElem?_eq_getElem hj, hje], h5⟩
    · exact .inl ⟨k', by omega, h2, h3, e, h4, h5⟩
  · rintro (⟨k', h1, h2, h3, h4⟩ | ⟨j, hj, e, he, h5⟩)
    · exact ⟨k', by omega, h2, h3, h4⟩
    · exact ⟨k, by omega, h, h', e, List.mem_of_getElem? he, h5⟩
theorem partTo_zero {adj : Adj} {i k b : Nat} : ¬ partTo adj i k 0 b := fun ⟨_, h, _⟩ => by omega
theorem partTo_succ {adj : Adj} {i k j b : Nat} {e : Nat × Nat} (he : (adj k)[j]? = some e) : partTo adj i k (j + 1) b ↔ partTo adj i k j b ∨ (Rch adj e.1 i ∧ e.2.testBit b = true) := by
  constructor
  · rintro ⟨j', h1, e', h2, h3⟩
    by_cases hj : j' = j
    · subst hj
      rw [he] at h2
      injection h2 with h2
      subst h2
      exact .inr h3
    · exact .inl ⟨j', by omega, e', h2, h3⟩
  · rintro (⟨j', h1, e', h2, h3⟩ | h3)
    · exact ⟨j', by omega, e', h2, h3⟩
    · exact ⟨j, by omega, e, he, h3⟩
/-- What the whole sum says. -/
theorem upTo_good {adj : Adj} {i N S A : Nat} (hlt : ∀ k, (∃ e0 ∈ adj i, Rch adj e0.1 k) → k < N) (hb : ∃ e ∈ adj i, Rch adj e.1 i) (hA : ∀ b, A.testBit b = true ↔ upTo adj i N b) : A = S ↔ goodP adj S i := by
  have hsum : ∀ b, A.testBit b = true ↔ ∃ e, inScc adj i e ∧ e.2.testBit b = true := fun b => by
    rw [hA b]
    constructor
    · rintro ⟨k, h1, h2, h3, e, h4, h5, h6⟩
      exact ⟨e, (inScc_iff hb e).2 ⟨k, h2, h3, h4, h5⟩, h6⟩
    · rintro ⟨e, he, h6⟩
      obtain ⟨k, h2, h3, h4, h5⟩ := (inScc_iff hb e).1 he
      exact ⟨k, hlt k h2, h2, h3, e, h4, h5, h6⟩
  constructor
  · rintro rfl
    obtain ⟨e, he, h⟩ := hb
    exact ⟨⟨e, i, ⟨.refl, .refl⟩, he, Rch.one he, h⟩, hsum⟩
  · rintro ⟨_, h⟩
    refine Nat.eq_of_testBit_eq fun b => ?_
    rw [Bool.eq_iff_iff, hsum b, h b]
theorem good_back {adj : Adj} {S i : Nat} (h : goodP adj S i) : ∃ e ∈ adj i, Rch adj e.1 i := by
  obtain ⟨⟨e, he⟩, _⟩ := h
  exact comes_round he
/-- A row of flags that the call made. -/
theorem met_at {B N i : Nat} {w : World} {v : Value} {met : Nat → Option Unit} (h : w.ownsRow B 4 1 v N (metB met N)) (hi : i < N) : ∃ g c, v = .slice (some ⟨g, 0, none⟩) N c ∧ N ≤ c ∧ c ≤ maxLen ∧ g < w.heap.size ∧ ∀ j, j < N → w.cell? ⟨g, j, none⟩ = some (.bool (met j).isSome) := by
  obtain ⟨g, c, hv, _, hg, hc, hm, hcell, _⟩ := owns_some h (by omega)
  exact ⟨g, c, hv, hc, hm, hg, fun j hj => by rw [hcell j (by omega)]; exact metB_at met hj⟩
theorem stepsOf_len {g : Gen} {l : Las} {N p : Nat} (h : Fit2 g l N) : (stepsOf g l p).length ≤ 131072 := by
  unfold stepsOf stepsIn
  rw [List.length_map]
  refine Nat.le_trans (List.length_filter_le _ _) ?_
  rw [List.getD_eq_getElem?_getD]
  cases hq : g.states[p % g.states.length]? with
  | none => simp
  | some ms => exact (h.moves ms (List.mem_of_getElem? hq)).1
theorem stepsOf_bits {g : Gen} {l : Las} {N p : Nat} (h : Fit2 g l N) {e : Nat × Nat} (he : e ∈ stepsOf g l p) : e.2 < 18446744073709551616 := by
  unfold stepsOf stepsIn at he
  obtain ⟨m, hm, rfl⟩ := List.mem_map.1 he
  have hm' := (List.mem_filter.1 hm).1
  rw [List.getD_eq_getElem?_getD] at hm'
  cases hq : g.states[p % g.states.length]? with
  | none => rw [hq] at hm'; cases hm'
  | some ms =>
    rw [hq, Option.getD_some] at hm'
    exact h.sets ms (List.mem_of_getElem? hq) m hm'
end Go.Proofs.YtelanndleinabaaDoor
