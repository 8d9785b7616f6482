/- Rows of moves that the call made. -/
import Derived.Test.YtelanndleinabaaDoorWayP
namespace Go.Proofs.YtelanndleinabaaDoor
open Go.RowKit
set_option linter.unusedVariables false

theorem Tryd.info89 : (Tryd.prog.info? 89).map (fun i => (i.zero, i.size, i.bytes)) = some (some (.agg #[.int .u64 0, .int .u64 0, .slice none 0 0]), 3, 40) := by kernel_rfl
theorem Tryd.info53 : (Tryd.prog.info? 53).map (fun i => (i.zero, i.size, i.bytes)) = some (some (.agg #[.int .u64 0, .int .u64 0, .int .i64 0, .int .u64 0]), 4, 32) := by kernel_rfl
/-- A row of ints that the call made. -/
def OwnI (B : Nat) (w : World) (v : Value) (xs : List Int) : Prop := w.ownsRow B 3 1 v xs.length (ints xs) ∧ ∀ x ∈ xs, -9223372036854775808 ≤ x ∧ x ≤ 9223372036854775807
/-- .. and one of moves. -/
def OwnN (B : Nat) (w : World) (v : Value) (ms : List AMv) : Prop := ∃ ps : List AP, ps.map Prod.fst = ms ∧ w.ownsRow B 89 3 v ps.length (aps ps) ∧ ∀ p ∈ ps, OwnI B w p.2 p.1.to ∧ p.1.yes < 18446744073709551616 ∧ p.1.no < 18446744073709551616
section
variable {B B' : Nat} {w w' : World} {v : Value} {ms : List AMv} {xs : List Int}
theorem OwnI.below (h : OwnI B w v xs) (hb : Below w.heap.size w w') : OwnI B w' v xs := ⟨(Fr.of_below hb (fun _ => False)).owns h.1 (fun _ _ h => h), h.2⟩
theorem OwnI.mono (h : OwnI B w v xs) (hb : B' ≤ B) : OwnI B' w v xs := ⟨own_mono h.1 hb, h.2⟩
theorem OwnI.read (h : OwnI B w v xs) : RowI w.heap.size w v xs := ⟨Row.of_owns h.1, h.2⟩
theorem OwnI.any (h : OwnI B w v xs) (hb : B' ≤ B) : AnyI B' w v xs := .inr (h.mono hb)
theorem OwnI.kq (h : OwnI B w v xs) (hk : Kq w w') : OwnI B w' v xs := ⟨hk.owns h.1 (by decide) (by decide), h.2⟩
theorem OwnI.nil (B : Nat) (w : World) : OwnI B w (.slice none 0 0) [] := ⟨World.ownsRow_nil w B 3 1, fun x hx => by cases hx⟩
theorem OwnI.grown {base size n : Nat} {e : TypeId} {u : Value} {ys : List Value} (h : OwnI B w v xs) (ho : w.ownsRow base e size u n ys) (hg : w.grownBy w' u.ownBlock) (hne : e ≠ 3) : OwnI B w' v xs :=
  ⟨h.1.kept hg (own_pair h.1 ho (Ne.symm hne)), h.2⟩
theorem OwnN.below (h : OwnN B w v ms) (hb : Below w.heap.size w w') : OwnN B w' v ms := by
  obtain ⟨ps, h1, h2, h3⟩ := h
  exact ⟨ps, h1, (Fr.of_below hb (fun _ => False)).owns h2 (fun _ _ h => h), fun p hp => ⟨(h3 p hp).1.below hb, (h3 p hp).2⟩⟩
theorem OwnN.mono (h : OwnN B w v ms) (hb : B' ≤ B) : OwnN B' w v ms := by
  obtain ⟨ps, h1, h2, h3⟩ := h
  exact ⟨ps, h1, own_mono h2 hb, fun p hp => ⟨(h3 p hp).1.mono hb, (h3 p hp).2⟩⟩
theorem OwnN.kq (h : OwnN B w v ms) (hk : Kq w w') : OwnN B w' v ms := by
  obtain ⟨ps, h1, h2, h3⟩ := h
  exact ⟨ps, h1, hk.owns h2 (by decide) (by decide), fun p hp => ⟨(h3 p hp).1.kq hk, (h3 p hp).2⟩⟩
theorem OwnN.grown {base size n : Nat} {e : TypeId} {u : Value} {ys : List Value} (h : OwnN B w v ms) (ho : w.ownsRow base e size u n ys) (hg : w.grownBy w' u.ownBlock) (h1 : e ≠ 3) (h2 : e ≠ 89) : OwnN B w' v ms := by
  obtain ⟨ps, k1, k2, k3⟩ := h
  exact ⟨ps, k1, k2.kept hg (own_pair k2 ho (Ne.symm h2)), fun p hp => ⟨(k3 p hp).1.grown ho hg h1, (k3 p hp).2⟩⟩
theorem OwnN.nil (B : Nat) (w : World) : OwnN B w (.slice none 0 0) [] := ⟨[], rfl, World.ownsRow_nil w B 89 3, fun x hx => by cases hx⟩
theorem OwnN.rowA (h : OwnN B w v ms) : RowA w.heap.size w v ms := by
  obtain ⟨ps, h1, h2, h3⟩ := h
  exact ⟨ps, h1, Row.of_owns h2, fun p hp => ⟨(h3 p hp).1.read, (h3 p hp).2⟩⟩
theorem OwnN.form (h : OwnN B w v ms) : ∃ a cap, v = .slice a ms.length cap ∧ ms.length ≤ cap ∧ cap ≤ maxLen := by
  obtain ⟨ps, h1, h2, h3⟩ := h
  rw [← h1, List.length_map]
  exact owns_form h2
theorem OwnN.push {z : AP} {v' : Value} {ps : List AP} (h2 : w.ownsRow B 89 3 v ps.length (aps ps)) (h3 : ∀ p ∈ ps, OwnI B w p.2 p.1.to ∧ p.1.yes < 18446744073709551616 ∧ p.1.no < 18446744073709551616)
    (hz : OwnI B w z.2 z.1.to ∧ z.1.yes < 18446744073709551616 ∧ z.1.no < 18446744073709551616) (hg : w.grownBy w' v.ownBlock) (hr : w'.ownsRow B 89 3 v' (ps.length + 1) (aps ps ++ apCells z)) : OwnN B w' v' (ps.map Prod.fst ++ [z.1]) := by
  refine ⟨ps ++ [z], by simp, ?_, ?_⟩
  · rw [List.length_append, List.length_singleton, aps_snoc]; exact hr
  · intro p hp
    rcases List.mem_append.1 hp with hp | hp
    · exact ⟨(h3 p hp).1.grown h2 hg (by decide), (h3 p hp).2⟩
    · rw [List.mem_singleton] at hp
      subst hp
      exact ⟨hz.1.grown h2 hg (by decide), hz.2⟩
theorem OwnN.one (w : World) : OwnN w.heap.size (w.alloc (.cells #[.int .u64 0, .int .u64 0, .slice none 0 0] 89)) (.slice (some ⟨w.heap.size, 0, none⟩) 1 1) [⟨0, 0, []⟩] := by
  refine ⟨[(⟨0, 0, []⟩, .slice none 0 0)], rfl, World.ownsRow_lit w #[.int .u64 0, .int .u64 0, .slice none 0 0] 1 (Nat.le_refl _) (by unfold maxLen; omega) rfl, ?_⟩
  intro p hp
  rw [List.mem_singleton] at hp
  subst hp
  exact ⟨OwnI.nil _ _, by simp, by simp⟩
/-- What a function value of ways asks: is there a move just like z? -/
theorem ways_pred {bz : Nat} {ps : List AP} {z : AP} (h : RowP w.heap.size w v ps) (h3 : ∀ p ∈ ps, RowI w.heap.size w p.2 p.1.to) (hz : RowI w.heap.size w z.2 z.1.to)
    (hH : Holds w bz 89 (apCells z)) : Calls Tryd.prog 48 #[v, .func (.func 49) #[] #[.pointer (some ⟨bz, 0, none⟩)]] w fun e w' => e = .returned (.bool ((ps.map Prod.fst).any fun o => sameB o z.1)) ∧ Below w.heap.size w w' := by
  have := containsFuncP 49 #[.pointer (some ⟨bz, 0, none⟩)] enters49 (fun p => sameB p.1 z.1) v ps w h (fun w' hb y hy => by
    have hH' := hH.belowAll hb
    have c0 := hH'.cell 0
    have c1 := hH'.cell 1
    have c2 := hH'.cell 2
    simp only [apCells, List.getElem?_cons_zero, List.getElem?_cons_succ] at c0 c1 c2
    exact ways1 y z bz w' c0 c1 c2 (((h3 y hy).below hb).mono hb.size) ((hz.below hb).mono hb.size) hH'.lt)
  have e : ((ps.map Prod.fst).any fun o => sameB o z.1) = ps.any fun p => sameB p.1 z.1 := by rw [List.any_map]; rfl
  rw [e]
  exact this
end
end Go.Proofs.YtelanndleinabaaDoor
