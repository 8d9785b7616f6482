/- Words for part: what is gathered over a part; a stack that is cut. -/
import Derived.Test.YtelanndleinabaaDoorEntW
import Derived.Test.YtelanndleinabaaDoorIdx
namespace Go.Proofs.YtelanndleinabaaDoor
open Go.RowKit
set_option linter.unusedVariables false

/-- The sets that are gathered over some moves; whether there is any. -/
def AccOf (SS : Nat) (RR : Bool) (E : Nat × Nat → Prop) : Prop := SS < 18446744073709551616 ∧ (∀ j, SS.testBit j = true ↔ ∃ e, E e ∧ e.2.testBit j = true) ∧ (RR = true ↔ ∃ e, E e)
theorem AccOf.none : AccOf 0 false (fun _ => False) := ⟨by omega, fun j => by simp, by simp⟩
theorem AccOf.congr {SS : Nat} {RR : Bool} {E E' : Nat × Nat → Prop} (h : AccOf SS RR E) (he : ∀ e, E e ↔ E' e) : AccOf SS RR E' :=
  ⟨h.1, fun j => by rw [h.2.1 j]; simp only [he], by rw [h.2.2]; simp only [he]⟩
theorem AccOf.add {SS : Nat} {RR : Bool} {E : Nat × Nat → Prop} (h : AccOf SS RR E) {e0 : Nat × Nat} (h0 : e0.2 < 18446744073709551616) : AccOf (SS ||| e0.2) true (fun e => E e ∨ e = e0) := by
  refine ⟨?_, fun j => ?_, by simp⟩
  · have : SS ||| e0.2 < 2 ^ 64 := Nat.or_lt_two_pow h.1 h0
    exact this
  · rw [Nat.testBit_or, Bool.or_eq_true, h.2.1 j]
    constructor
    · rintro (⟨e, h1, h2⟩ | h1)
      · exact ⟨e, .inl h1, h2⟩
      · exact ⟨e0, .inr rfl, h1⟩
    · rintro ⟨e, h1 | h1, h2⟩
      · exact .inl ⟨e, h1, h2⟩
      · subst h1; exact .inr h2

section
variable {β T mi ml mo N S : Nat} {fv vs : Value} {w w' : World} {fi fl : Nat → Option Nat} {fo : Nat → Option Unit} {st : List Nat}
/-- The search's blocks lie below U. -/
def Low (T mi ml mo : Nat) (vs : Value) (U : Nat) : Prop := T < U ∧ mi < U ∧ ml < U ∧ mo < U ∧ ∀ k, vs.ownBlock = some k → k < U
theorem TMem.lows (h : TMem β T mi ml mo N S fv vs w fi fl fo st) : Low T mi ml mo vs w.heap.size := ⟨h.t.lt, h.index.lt, h.low.lt, h.on.lt, fun k hk => (h.stack.lt k hk).2⟩
theorem TMem.later {U k : Nat} (h : TMem β T mi ml mo N S fv vs w fi fl fo st) (hU : Low T mi ml mo vs U) (hg : w.grownBy w' (some k)) (hk : U ≤ k) : TMem β T mi ml mo N S fv vs w' fi fl fo st := by
  obtain ⟨u1, u2, u3, u4, u5⟩ := hU
  refine ⟨h.t.of_eq (hg.block _ h.t.lt ?_), h.bt, h.index.of_eq (hg.block _ h.index.lt ?_), h.low.of_eq (hg.block _ h.low.lt ?_), h.on.of_eq (hg.block _ h.on.lt ?_), h.stack.kept hg (.inr fun e => ?_)⟩
  · intro e; injection e with e; omega
  · intro e; injection e with e; omega
  · intro e; injection e with e; omega
  · intro e; injection e with e; omega
  · have := u5 k e; omega
theorem Kp.later {a : World} {k : Nat} (h : Kp a w) (hg : w.grownBy w' (some k)) (hk : a.heap.size ≤ k) : Kp a w' :=
  ⟨Nat.le_trans h.size hg.size, fun g cs t h1 h2 h3 => (hg.block g (Nat.lt_of_lt_of_le (Array.getElem?_eq_some_iff.1 h3).1 h.size) (by
    intro e; injection e with e
    have := (Array.getElem?_eq_some_iff.1 h3).1
    omega)).trans (h.row g cs t h1 h2 h3)⟩
theorem own_trunc {base g n cap m : Nat} {e : TypeId} {xs : List Value} (h : w.ownsRow base e 1 (.slice (some ⟨g, 0, none⟩) n cap) n xs) (hm : m ≤ n) : w.ownsRow base e 1 (.slice (some ⟨g, 0, none⟩) m cap) m (xs.take m) := by
  have hl := h.1
  rcases h.2 with ⟨h0, h1⟩ | ⟨g', cap', cur, hv, hb, hg, hnc, hcm, hcs, ht⟩
  · cases h0
  · injection hv with h1 h2 h3
    injection h1 with h1
    injection h1 with h1
    subst h1; subst h3
    refine ⟨by rw [List.length_take]; omega, .inr ⟨g, cap, cur, rfl, hb, hg, by omega, hcm, hcs, ?_⟩⟩
    rw [← ht, List.take_take]
    congr 1
    omega
/-- The stack is cut down to its first m. -/
theorem TMem.cut {g n cap m : Nat} (h : TMem β T mi ml mo N S fv (.slice (some ⟨g, 0, none⟩) n cap) w fi fl fo st) (hn : st.length = n) (hm : m ≤ n) :
    TMem β T mi ml mo N S fv (.slice (some ⟨g, 0, none⟩) m cap) (w.setCell ⟨T, 5, none⟩ (.slice (some ⟨g, 0, none⟩) m cap)) fi fl fo (st.take m) := by
  have hs := h.stack
  rw [hn] at hs
  have := own_trunc hs hm
  have h2 := h.putS (w' := w) (st' := st.take m) (vs' := .slice (some ⟨g, 0, none⟩) m cap) ⟨rfl, rfl, rfl, Nat.le_refl _, fun _ _ _ => rfl⟩ (by
    rw [List.length_take, hn, Nat.min_eq_left hm]
    have e : nats (st.take m) = (nats st).take m := by simp [nats, List.map_take]
    rw [e]
    exact this)
  exact h2
end
theorem own_cell {w : World} {base g m n cap size : Nat} {e : TypeId} {xs : List Value} (h : w.ownsRow base e size (.slice (some ⟨g, 0, none⟩) m cap) n xs) {j : Nat} (hj : j < n * size) : w.cell? ⟨g, j, none⟩ = xs[j]? := by
  have hn : 0 < n := by
    rcases Nat.eq_zero_or_pos n with h0 | h0
    · subst h0; omega
    · exact h0
  obtain ⟨g', cap', hv, _, _, _, _, hcs, _⟩ := owns_some h hn
  injection hv with h1 h2 h3
  injection h1 with h1
  injection h1 with h1
  subst h1
  exact hcs j hj
theorem wpList_igetc (w : World) {ops : Array Oper} {rest : List Oper} {o : Oper} {a : Act} {Q : Exit → Act → World → Prop} {b N : Nat} {f : Nat → Option Nat} (hg : o.guard = none) (m x : Operand) (hop : o.op = Op.lookup 70 m x false) (hm : a.eval m = .map (some b)) (hown : IMap w b N f) (y : Nat) (hx : a.eval x = .int .i64 (y : Int)) (hy : y < N) (hN : N < 4611686018427387904)
    (c : Nat) (hc : (f y).getD 0 = c) (hK : wpList Tryd.prog ops Q rest (a.put o.dst (.int .i64 (c : Int))) w) : wpList Tryd.prog ops Q (o :: rest) a w :=
  wpList_iget w hg m x hop hm hown y hx hy hN (by rw [hc]; exact hK)
theorem grown_of_below {w w' : World} (hb : Below w.heap.size w w') (row : Option Nat) : w.grownBy w' row := ⟨hb.os, hb.tape, hb.output, hb.size, fun i hi _ => hb.block i hi⟩
theorem grown_alloc (w : World) (o : Obj) : w.grownBy (w.alloc o) none := World.grownBy_alloc w o none
theorem firstFrom_at (z : Nat) : ∀ (u r : List Nat) (i : Nat), z ∉ u → firstFrom (fun y => (z : Int) == y) i ((u ++ z :: r).map fun (x : Nat) => (x : Int)) = ((i + u.length : Nat) : Int)
  | [], r, i, _ => by simp [firstFrom]
  | y :: u, r, i, h => by
    have h1 : z ≠ y := fun e => h (by rw [e]; exact List.mem_cons_self ..)
    have h2 : ((z : Int) == (y : Int)) = false := by simp; omega
    simp only [List.cons_append, List.map_cons, firstFrom, h2]
    rw [firstFrom_at z u r (i + 1) (fun e => h (List.mem_cons_of_mem _ e))]
    simp only [List.length_cons]
    simp; omega
theorem part_split (x : Nat) : ∀ (l : List Nat), x ∈ l → ∃ r, part_ x l = r ++ [x] ∧ x ∉ r
  | [], h => by cases h
  | y :: l, h => by
    unfold part_
    by_cases e : y = x
    · rw [if_pos e]; exact ⟨[], by rw [e]; rfl, List.not_mem_nil⟩
    · rw [if_neg e]
      obtain ⟨r, h1, h2⟩ := part_split x l ((List.mem_cons.1 h).resolve_left (fun h => e h.symm))
      exact ⟨y :: r, by rw [h1]; rfl, fun hm => (List.mem_cons.1 hm).elim (fun h => e h.symm) h2⟩
/-- The moves within a part. -/
def inPart (adj : Nat → List (Nat × Nat)) (C : List Nat) (e : Nat × Nat) : Prop := ∃ k, k ∈ C ∧ e ∈ adj k ∧ e.1 ∈ C
theorem rowI_of_nats {B : Nat} {w : World} {v : Value} {xs : List Nat} (h : Row B w 1 v xs.length (nats xs)) (hb : ∀ x ∈ xs, x < 4611686018427387904) : RowI B w v (xs.map fun (x : Nat) => (x : Int)) := by
  refine ⟨?_, ?_⟩
  · have e : ints (xs.map fun (x : Nat) => (x : Int)) = nats xs := by simp [ints, nats, List.map_map, Function.comp_def]
    rw [e, List.length_map]
    exact h
  · intro z hz
    obtain ⟨y, hy, rfl⟩ := List.mem_map.1 hz
    have := hb y hy
    omega
/-- A set as a map's words. -/
def setF (l : List Nat) (x : Nat) : Option Nat := if x ∈ l then some 1 else none
theorem setF_snoc (l : List Nat) (x : Nat) : setF (l ++ [x]) = upd (setF l) x (some 1) := by
  funext y
  unfold setF upd
  by_cases h : y = x <;> simp [h]
def minusF (f : Nat → Option Unit) (l : List Nat) (x : Nat) : Option Unit := if x ∈ l then none else f x
theorem minusF_snoc (f : Nat → Option Unit) (l : List Nat) (x : Nat) : minusF f (l ++ [x]) = upd (minusF f l) x none := by
  funext y
  unfold minusF upd
  by_cases h : y = x <;> simp [h]
theorem onF_pop {s : TSt} {x : Nat} (hnd : s.stack.Pairwise (· ≠ ·)) : minusF (onF s) (part_ x s.stack) = onF (s.pop x) := by
  funext y
  have hpu := part_under x s.stack
  have hap : ∀ a ∈ part_ x s.stack, ∀ b ∈ under x s.stack, a ≠ b := (List.pairwise_append.1 (by rw [hpu]; exact hnd)).2.2
  have hm : y ∈ s.stack ↔ y ∈ part_ x s.stack ∨ y ∈ under x s.stack := by conv => lhs; rw [← hpu]; rw [List.mem_append]
  unfold minusF onF
  show _ = if y ∈ under x s.stack then some () else none
  by_cases h1 : y ∈ part_ x s.stack
  · rw [if_pos h1, if_neg (fun h => hap y h1 y h rfl)]
  · rw [if_neg h1]
    by_cases h2 : y ∈ under x s.stack
    · rw [if_pos h2, if_pos (hm.2 (.inr h2))]
    · rw [if_neg h2, if_neg (fun h => (hm.1 h).elim h1 h2)]
end Go.Proofs.YtelanndleinabaaDoor
