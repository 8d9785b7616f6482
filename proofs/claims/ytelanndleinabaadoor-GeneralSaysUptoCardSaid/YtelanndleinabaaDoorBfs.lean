/- Plain: what is reached, numbered as it is met; a part that comes round passes the loop's first place. -/
import Derived.Test.YtelanndleinabaaDoorGAcc
namespace Go.Proofs.YtelanndleinabaaDoor
open Go.RowKit
set_option linter.unusedVariables false

structure RInv (adj : Adj) (N : Nat) (fr : List Nat) (met : Nat → Option Unit) (row : List Nat) : Prop where
  len : row.length = cntB met N
  mem : ∀ x, x < N → ((met x).isSome = true ↔ x ∈ row)
  lt : ∀ x ∈ row, x < N
  src : ∀ x ∈ row, ∃ s ∈ fr, Rch adj s x
section
variable {adj : Adj} {N : Nat} {fr : List Nat} {met : Nat → Option Unit} {row : List Nat}
theorem RInv.start : RInv adj N fr (fun _ => none) [] :=
  ⟨(cntB_none N).symm, (fun x _ => by simp), (fun x h => by cases h), (fun x h => by cases h)⟩
theorem RInv.add (h : RInv adj N fr met row) {x : Nat} (hx : x < N) (hm : met x = none) (hs : ∃ s ∈ fr, Rch adj s x) : RInv adj N fr (upd met x (some ())) (row ++ [x]) := by
  refine ⟨?_, fun y hy => ?_, fun y hy => ?_, fun y hy => ?_⟩
  · rw [List.length_append, List.length_singleton, cntB_new hx hm, h.len]
  · by_cases e : y = x
    · subst e; simp [upd]
    · rw [upd_other met _ e, h.mem y hy]; simp [e]
  · rcases List.mem_append.1 hy with hy | hy
    · exact h.lt y hy
    · rw [List.mem_singleton.1 hy]; exact hx
  · rcases List.mem_append.1 hy with hy | hy
    · exact h.src y hy
    · rw [List.mem_singleton.1 hy]; exact hs
theorem RInv.few (h : RInv adj N fr met row) : row.length ≤ N := by rw [h.len]; exact cntB_le _ _
theorem RInv.room (h : RInv adj N fr met row) {x : Nat} (hx : x < N) (hm : met x = none) : row.length < N := by rw [h.len]; exact cntB_lt hx hm
/-- At the end what is met is what is reached. -/
theorem RInv.over (h : RInv adj N fr met row) (hf : ∀ s ∈ fr, s ∈ row) (hc : ∀ y ∈ row, ∀ e ∈ adj y, e.1 ∈ row) {x : Nat} (hx : x < N) : (met x).isSome = true ↔ ∃ s ∈ fr, Rch adj s x := by
  rw [h.mem x hx]
  constructor
  · exact h.src x
  · rintro ⟨s, hs, hr⟩
    exact hr.carry (P := fun y => y ∈ row) (hf s hs) hc
end

theorem stepsOf_place {g : Gen} {l : Las} {N p : Nat} (h : Fit2 g l N) (hp : p < N) {e : Nat × Nat} (he : e ∈ stepsOf g l p) : e.1 / g.states.length = nextPl l.pre.length (l.pre.length + l.loop.length) (p / g.states.length) := by
  unfold stepsOf stepsIn at he
  obtain ⟨m, hm, rfl⟩ := List.mem_map.1 he
  have hm := (List.mem_filter.1 hm).1
  have hn := h.n0
  have hs : p % g.states.length < g.states.length := Nat.mod_lt _ hn
  rw [List.getD_eq_getElem?_getD, List.getElem?_eq_getElem hs, Option.getD_some] at hm
  obtain ⟨t0, t1⟩ := (h.moves _ (List.getElem_mem hs)).2 m hm
  show (_ * _ + _) / _ = _
  rw [Nat.mul_comm, Nat.mul_add_div hn, Nat.div_eq_of_lt (show m.to.toNat < g.states.length by omega), Nat.add_zero]
theorem rch_lt {g : Gen} {l : Las} {N a y : Nat} (h : Fit2 g l N) (ha : a < N) (hr : Rch (stepsOf g l) a y) : y < N :=
  hr.carry (P := fun z => z < N) ha (fun u hu e he => (h.step hu he).1)
/-- From one pair to another: over the loop's first place, or forward. -/
theorem pass {g : Gen} {l : Las} {N a y : Nat} (h : Fit2 g l N) (ha : a < N) (hr : Rch (stepsOf g l) a y) :
    (∃ z, Rch (stepsOf g l) a z ∧ Rch (stepsOf g l) z y ∧ z / g.states.length = l.pre.length) ∨ a / g.states.length ≤ y / g.states.length := by
  induction hr with
  | refl => exact .inr (Nat.le_refl _)
  | @tail y e hay he ih =>
    have hy := rch_lt h ha hay
    rcases ih with ⟨z, h1, h2, h3⟩ | hle
    · exact .inl ⟨z, h1, h2.tail he, h3⟩
    · have hpl := stepsOf_place h hy he
      unfold nextPl at hpl
      split at hpl
      · exact .inl ⟨e.1, hay.tail he, .refl, hpl⟩
      · exact .inr (by omega)
/-- A part that comes round passes the loop's first place. -/
theorem passes {g : Gen} {l : Las} {N x : Nat} (h : Fit2 g l N) (hx : x < N) {e : Nat × Nat} (he : inScc (stepsOf g l) x e) : ∃ z, (Rch (stepsOf g l) x z ∧ Rch (stepsOf g l) z x) ∧ z / g.states.length = l.pre.length := by
  obtain ⟨k, ⟨k1, k2⟩, hek, ⟨e1, e2⟩⟩ := he
  have hk := rch_lt h hx k1
  have hel := rch_lt h hx e1
  have hpl := stepsOf_place h hk hek
  unfold nextPl at hpl
  split at hpl
  · exact ⟨e.1, ⟨e1, e2⟩, hpl⟩
  · rcases pass h hel (e2.trans k1) with ⟨z, h1, h2, h3⟩ | hle
    · exact ⟨z, ⟨e1.trans h1, h2.trans k2⟩, h3⟩
    · omega
/-- The document's answer, in its words. -/
theorem accP_ref {g : Gen} {l : Las} {N : Nat} (h : Fit2 g l N) (hin : ∀ s ∈ g.init, 0 ≤ s ∧ s < (g.states.length : Int)) :
    accP g l ↔ ∃ i, i < N ∧ (∃ s ∈ g.init, Rch (stepsOf g l) s.toNat i) ∧ i / g.states.length = l.pre.length ∧ goodP (stepsOf g l) (2 ^ g.sets.toNat - 1) i := by
  constructor
  · rintro ⟨s, hs, y, hr, hg⟩
    obtain ⟨s0, s1⟩ := hin s hs
    have hlo := h.loop
    have hsN : s.toNat < N := by
      rw [h.N]
      have : 1 * g.states.length ≤ (l.pre.length + l.loop.length) * g.states.length := Nat.mul_le_mul_right _ (by omega)
      omega
    have hy := rch_lt h hsN hr
    obtain ⟨⟨e, he⟩, hb⟩ := hg
    obtain ⟨z, ⟨z1, z2⟩, z3⟩ := passes h hy he
    exact ⟨z, rch_lt h hy z1, ⟨s, hs, hr.trans z1⟩, z3, goodP_same z2 z1 ⟨⟨e, he⟩, hb⟩⟩
  · rintro ⟨i, _, ⟨s, hs, hr⟩, _, hg⟩
    exact ⟨s, hs, i, hr, hg⟩
/-- One comes back to i over at least one move. -/
theorem inScc_iff {adj : Adj} {i : Nat} (hback : ∃ e ∈ adj i, Rch adj e.1 i) (e : Nat × Nat) : inScc adj i e ↔ ∃ k, (∃ e0 ∈ adj i, Rch adj e0.1 k) ∧ Rch adj k i ∧ e ∈ adj k ∧ Rch adj e.1 i := by
  constructor
  · rintro ⟨k, ⟨k1, k2⟩, he, ⟨_, e2⟩⟩
    obtain ⟨e0, h0, h1⟩ := hback
    exact ⟨k, ⟨e0, h0, h1.trans k1⟩, k2, he, e2⟩
  · rintro ⟨k, ⟨e0, h0, h1⟩, k2, he, e2⟩
    have hik : Rch adj i k := (Rch.one h0).trans h1
    exact ⟨k, ⟨hik, k2⟩, he, ⟨hik.tail he, e2⟩⟩
theorem comes_round {adj : Adj} {i : Nat} {e : Nat × Nat} (h : inScc adj i e) : ∃ e0 ∈ adj i, Rch adj e0.1 i := by
  obtain ⟨k, ⟨k1, k2⟩, he, ⟨_, e2⟩⟩ := h
  have : Rch adj i i ∧ ∃ e0 ∈ adj i, Rch adj e0.1 i := by
    have hcyc : ∀ y, Rch adj i y → (y = i ∨ ∃ e0 ∈ adj i, Rch adj e0.1 y) := fun y hy => by
      induction hy with
      | refl => exact .inl rfl
      | @tail y f hy hf ih =>
        rcases ih with rfl | ⟨e0, h0, h1⟩
        · exact .inr ⟨f, hf, .refl⟩
        · exact .inr ⟨e0, h0, h1.tail hf⟩
    rcases hcyc k k1 with rfl | ⟨e0, h0, h1⟩
    · exact ⟨.refl, e, he, e2⟩
    · exact ⟨.refl, e0, h0, h1.trans k2⟩
  exact this.2
end Go.Proofs.YtelanndleinabaaDoor
