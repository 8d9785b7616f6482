/- Words for what is only read: rows of numbers, of moves, of rows; automata and words. -/
import Derived.Test.YtelanndleinabaaDoorSep
namespace Go.Proofs.YtelanndleinabaaDoor
open Go.RowKit
set_option linter.unusedVariables false

/-- A slice of n elements of so many cells, that lies below block B and reads flat. -/
def Row (B : Nat) (w : World) (size : Nat) (v : Value) (n : Nat) (flat : List Value) : Prop :=
  ∃ a cap, v = .slice a n cap ∧ n ≤ cap ∧ cap ≤ maxLen ∧ flat.length = n * size ∧ (a = none → cap = 0) ∧ (0 < n → ∃ g o, a = some ⟨g, o, none⟩ ∧ g < B ∧ ∀ j, j < n * size → w.cell? ⟨g, o + j, none⟩ = flat[j]?)

theorem cell_below {B : Nat} {w w' : World} (hb : Below B w w') {g : Nat} (hg : g < B) (j : Nat) : w'.cell? ⟨g, j, none⟩ = w.cell? ⟨g, j, none⟩ := by simp [World.cell?, hb.block g hg]

section
variable {B size n : Nat} {w w' : World} {v : Value} {flat : List Value}
theorem Row.below (h : Row B w size v n flat) (hb : Below B w w') : Row B w' size v n flat := by
  obtain ⟨a, cap, hv, h1, h2, h3, h0, h4⟩ := h
  refine ⟨a, cap, hv, h1, h2, h3, h0, fun hn => ?_⟩
  obtain ⟨g, o, ha, hg, hc⟩ := h4 hn
  exact ⟨g, o, ha, hg, fun j hj => (cell_below hb hg _).trans (hc j hj)⟩
theorem Row.mono {B' : Nat} (h : Row B w size v n flat) (hB : B ≤ B') : Row B' w size v n flat := by
  obtain ⟨a, cap, hv, h1, h2, h3, h0, h4⟩ := h
  refine ⟨a, cap, hv, h1, h2, h3, h0, fun hn => ?_⟩
  obtain ⟨g, o, ha, hg, hc⟩ := h4 hn
  exact ⟨g, o, ha, by omega, hc⟩
theorem Row.nil (B : Nat) (w : World) (size : Nat) : Row B w size (.slice none 0 0) 0 [] := ⟨none, 0, rfl, by omega, by unfold maxLen; omega, by simp, fun _ => rfl, fun h => by omega⟩
theorem Row.of_owns {base : Nat} {e : TypeId} (h : w.ownsRow base e size v n flat) : Row w.heap.size w size v n flat := by
  have hl := h.1
  rcases h.2 with ⟨h0, h1⟩ | ⟨g, cap, cur, hv, hb, hg, hnc, hcm, hcs, ht⟩
  · subst h0
    subst h1
    exact ⟨none, 0, rfl, by omega, by unfold maxLen; omega, hl, fun _ => rfl, fun hn => by omega⟩
  · subst hv
    exact ⟨some ⟨g, 0, none⟩, cap, rfl, hnc, hcm, hl, (fun h => by cases h), fun hn => ⟨g, 0, rfl, (Array.getElem?_eq_some_iff.1 hg).1, fun j hj => by rw [Nat.zero_add]; exact h.cellAt j hj⟩⟩
theorem Row.form (h : Row B w size v n flat) : ∃ a cap, v = .slice a n cap ∧ n ≤ cap ∧ cap ≤ 9223372036854775807 := by
  obtain ⟨a, cap, hv, h1, h2, _⟩ := h
  exact ⟨a, cap, hv, h1, h2⟩
theorem Row.at {a : Option Addr} {m cap : Nat} (h : Row B w size (.slice a m cap) n flat) (hn : 0 < n) : ∃ g o, a = some ⟨g, o, none⟩ ∧ g < B ∧ ∀ j, j < n * size → w.cell? ⟨g, o + j, none⟩ = flat[j]? := by
  obtain ⟨a', cap', hv, h1, h2, h3, h0, h4⟩ := h
  injection hv with hv _ _
  obtain ⟨g, o, ha, hg, hc⟩ := h4 hn
  exact ⟨g, o, hv.trans ha, hg, hc⟩
end

/-- A row's value: nil, or it has a place from which it can be appended. -/
theorem Row.source {B size n : Nat} {w : World} {v : Value} {flat : List Value} (h : Row B w size v n flat) : (v = .slice none 0 0 ∧ n = 0) ∨ ∃ ad cap, v = .slice (some ad) n cap ∧ flat.length = n * size ∧ ∀ j u, flat[j]? = some u → w.cell? (ad.add j) = some u := by
  obtain ⟨a, cap, hv, h1, h2, h3, h0, h4⟩ := h
  cases a with
  | none =>
    have := h0 rfl
    subst this
    obtain rfl : n = 0 := by omega
    exact .inl ⟨hv, rfl⟩
  | some ad =>
    refine .inr ⟨ad, cap, hv, h3, fun j u hu => ?_⟩
    have hj : j < flat.length := (List.getElem?_eq_some_iff.1 hu).1
    have hn : 0 < n := by
      rcases Nat.eq_zero_or_pos n with h | h
      · subst h; omega
      · exact h
    obtain ⟨g, o, ha, hg, hc⟩ := h4 hn
    injection ha with ha
    subst ha
    rw [Addr.add_lit, hc j (by omega)]
    exact hu

/-- A row of ints. -/
def ints (xs : List Int) : List Value := xs.map fun x => Value.int .i64 x
def RowI (B : Nat) (w : World) (v : Value) (xs : List Int) : Prop := Row B w 1 v xs.length (ints xs) ∧ ∀ x ∈ xs, -9223372036854775808 ≤ x ∧ x ≤ 9223372036854775807
/-- A row of letters. -/
def u64s (xs : List Nat) : List Value := xs.map fun (x : Nat) => Value.int .u64 (x : Int)
def RowU (B : Nat) (w : World) (v : Value) (xs : List Nat) : Prop := Row B w 1 v xs.length (u64s xs) ∧ ∀ x ∈ xs, x < 18446744073709551616

/-- A move. -/
structure Mv where
  yes : Nat
  no : Nat
  to : Int
  sets : Nat
deriving DecidableEq
def Mv.wf (m : Mv) : Prop := m.yes < 18446744073709551616 ∧ m.no < 18446744073709551616 ∧ (-9223372036854775808 ≤ m.to ∧ m.to ≤ 9223372036854775807) ∧ m.sets < 18446744073709551616
def Mv.cells (m : Mv) : List Value := [.int .u64 (m.yes : Int), .int .u64 (m.no : Int), .int .i64 m.to, .int .u64 (m.sets : Int)]
def mvs (ms : List Mv) : List Value := ms.flatMap Mv.cells
def RowM (B : Nat) (w : World) (v : Value) (ms : List Mv) : Prop := Row B w 4 v ms.length (mvs ms) ∧ ∀ m ∈ ms, m.wf
/-- A row of rows of moves. -/
def RowMM (B : Nat) (w : World) (v : Value) (l : List (List Mv)) : Prop := ∃ hs : List Value, Row B w 1 v l.length hs ∧ ∀ (i : Nat) (h : i < l.length), ∃ u, hs[i]? = some u ∧ RowM B w u l[i]

/-- A generalised automaton; a word. -/
structure Gen where
  sets : Int
  init : List Int
  states : List (List Mv)
structure Las where
  pre : List Nat
  loop : List Nat
def GenAt (B : Nat) (w : World) (v : Value) (g : Gen) : Prop := ∃ a b, v = .agg #[.int .i64 g.sets, a, b] ∧ (-9223372036854775808 ≤ g.sets ∧ g.sets ≤ 9223372036854775807) ∧ RowI B w a g.init ∧ RowMM B w b g.states
def LasAt (B : Nat) (w : World) (v : Value) (l : Las) : Prop := ∃ a b, v = .agg #[a, b] ∧ RowU B w a l.pre ∧ RowU B w b l.loop

section
variable {B B' : Nat} {w w' : World} {v : Value}
theorem RowI.below {xs : List Int} (h : RowI B w v xs) (hb : Below B w w') : RowI B w' v xs := ⟨h.1.below hb, h.2⟩
theorem RowI.mono {xs : List Int} (h : RowI B w v xs) (hb : B ≤ B') : RowI B' w v xs := ⟨h.1.mono hb, h.2⟩
theorem RowU.below {xs : List Nat} (h : RowU B w v xs) (hb : Below B w w') : RowU B w' v xs := ⟨h.1.below hb, h.2⟩
theorem RowU.mono {xs : List Nat} (h : RowU B w v xs) (hb : B ≤ B') : RowU B' w v xs := ⟨h.1.mono hb, h.2⟩
theorem RowM.below {xs : List Mv} (h : RowM B w v xs) (hb : Below B w w') : RowM B w' v xs := ⟨h.1.below hb, h.2⟩
theorem RowM.mono {xs : List Mv} (h : RowM B w v xs) (hb : B ≤ B') : RowM B' w v xs := ⟨h.1.mono hb, h.2⟩
theorem RowMM.below {xs : List (List Mv)} (h : RowMM B w v xs) (hb : Below B w w') : RowMM B w' v xs := by
  obtain ⟨hs, h1, h2⟩ := h
  refine ⟨hs, h1.below hb, fun i hi => ?_⟩
  obtain ⟨u, hu, hm⟩ := h2 i hi
  exact ⟨u, hu, hm.below hb⟩
theorem RowMM.mono {xs : List (List Mv)} (h : RowMM B w v xs) (hb : B ≤ B') : RowMM B' w v xs := by
  obtain ⟨hs, h1, h2⟩ := h
  refine ⟨hs, h1.mono hb, fun i hi => ?_⟩
  obtain ⟨u, hu, hm⟩ := h2 i hi
  exact ⟨u, hu, hm.mono hb⟩
theorem GenAt.below {g : Gen} (h : GenAt B w v g) (hb : Below B w w') : GenAt B w' v g := by
  obtain ⟨a, b, hv, h0, h1, h2⟩ := h
  exact ⟨a, b, hv, h0, h1.below hb, h2.below hb⟩
theorem GenAt.mono {g : Gen} (h : GenAt B w v g) (hb : B ≤ B') : GenAt B' w v g := by
  obtain ⟨a, b, hv, h0, h1, h2⟩ := h
  exact ⟨a, b, hv, h0, h1.mono hb, h2.mono hb⟩
theorem LasAt.below {g : Las} (h : LasAt B w v g) (hb : Below B w w') : LasAt B w' v g := by
  obtain ⟨a, b, hv, h1, h2⟩ := h
  exact ⟨a, b, hv, h1.below hb, h2.below hb⟩
theorem LasAt.mono {g : Las} (h : LasAt B w v g) (hb : B ≤ B') : LasAt B' w v g := by
  obtain ⟨a, b, hv, h1, h2⟩ := h
  exact ⟨a, b, hv, h1.mono hb, h2.mono hb⟩

theorem mvs_at : ∀ (ms : List Mv) (i : Nat) (h : i < ms.length), (mvs ms)[i * 4]? = some (.int .u64 (ms[i].yes : Int)) ∧ (mvs ms)[i * 4 + 1]? = some (.int .u64 (ms[i].no : Int)) ∧ (mvs ms)[i * 4 + 2]? = some (.int .i64 ms[i].to) ∧ (mvs ms)[i * 4 + 3]? = some (.int .u64 (ms[i].sets : Int))
  | t :: ts, 0, _ => by simp [mvs, Mv.cells]
  | t :: ts, i + 1, h => by
    have hi := mvs_at ts i (by simpa using h)
    have e : mvs (t :: ts) = Mv.cells t ++ mvs ts := by simp [mvs]
    have hl : (Mv.cells t).length = 4 := rfl
    rw [e]
    rw [List.getElem?_append_right (by rw [hl]; omega), List.getElem?_append_right (by rw [hl]; omega), List.getElem?_append_right (by rw [hl]; omega), List.getElem?_append_right (by rw [hl]; omega), hl]
    simp only [show (i + 1) * 4 - 4 = i * 4 by omega, show (i + 1) * 4 + 1 - 4 = i * 4 + 1 by omega, show (i + 1) * 4 + 2 - 4 = i * 4 + 2 by omega, show (i + 1) * 4 + 3 - 4 = i * 4 + 3 by omega, List.getElem_cons_succ]
    exact hi
/-- Where a row is a slice: what lies at place k. -/
theorem RowI.at {xs : List Int} {a : Option Addr} {m cap : Nat} (h : RowI B w (.slice a m cap) xs) {k : Nat} (hk : k < xs.length) : ∃ g o, a = some ⟨g, o, none⟩ ∧ g < B ∧ w.cell? ⟨g, o + k, none⟩ = some (.int .i64 xs[k]) := by
  obtain ⟨g, o, ha, hg, hc⟩ := h.1.at (by omega)
  exact ⟨g, o, ha, hg, by rw [hc k (by omega)]; simp [ints, hk]⟩
theorem RowU.at {xs : List Nat} {a : Option Addr} {m cap : Nat} (h : RowU B w (.slice a m cap) xs) {k : Nat} (hk : k < xs.length) : ∃ g o, a = some ⟨g, o, none⟩ ∧ g < B ∧ w.cell? ⟨g, o + k, none⟩ = some (.int .u64 (xs[k] : Int)) := by
  obtain ⟨g, o, ha, hg, hc⟩ := h.1.at (by omega)
  exact ⟨g, o, ha, hg, by rw [hc k (by omega)]; simp [u64s, hk]⟩
theorem RowM.at {xs : List Mv} {a : Option Addr} {m cap : Nat} (h : RowM B w (.slice a m cap) xs) {k : Nat} (hk : k < xs.length) : ∃ g o, a = some ⟨g, o, none⟩ ∧ g < B ∧
    w.cell? ⟨g, o + k * 4, none⟩ = some (.int .u64 (xs[k].yes : Int)) ∧ w.cell? ⟨g, o + k * 4 + 1, none⟩ = some (.int .u64 (xs[k].no : Int)) ∧ w.cell? ⟨g, o + k * 4 + 2, none⟩ = some (.int .i64 xs[k].to) ∧ w.cell? ⟨g, o + k * 4 + 3, none⟩ = some (.int .u64 (xs[k].sets : Int)) := by
  obtain ⟨g, o, ha, hg, hc⟩ := h.1.at (by omega)
  obtain ⟨f0, f1, f2, f3⟩ := mvs_at xs k hk
  refine ⟨g, o, ha, hg, ?_, ?_, ?_, ?_⟩
  · rw [hc (k * 4) (by omega)]; exact f0
  · rw [Nat.add_assoc, hc (k * 4 + 1) (by omega)]; exact f1
  · rw [Nat.add_assoc, hc (k * 4 + 2) (by omega)]; exact f2
  · rw [Nat.add_assoc, hc (k * 4 + 3) (by omega)]; exact f3
theorem RowMM.at {xs : List (List Mv)} {a : Option Addr} {m cap : Nat} (h : RowMM B w (.slice a m cap) xs) {k : Nat} (hk : k < xs.length) : ∃ g o u, a = some ⟨g, o, none⟩ ∧ g < B ∧ w.cell? ⟨g, o + k, none⟩ = some u ∧ RowM B w u xs[k] := by
  obtain ⟨hs, h1, h2⟩ := h
  obtain ⟨g, o, ha, hg, hc⟩ := h1.at (by omega)
  obtain ⟨u, hu, hm⟩ := h2 k hk
  exact ⟨g, o, u, ha, hg, by rw [hc k (by omega)]; exact hu, hm⟩
theorem RowI.form {xs : List Int} (h : RowI B w v xs) : ∃ a cap, v = .slice a xs.length cap ∧ xs.length ≤ cap ∧ cap ≤ 9223372036854775807 := h.1.form
theorem RowU.form {xs : List Nat} (h : RowU B w v xs) : ∃ a cap, v = .slice a xs.length cap ∧ xs.length ≤ cap ∧ cap ≤ 9223372036854775807 := h.1.form
theorem RowM.form {xs : List Mv} (h : RowM B w v xs) : ∃ a cap, v = .slice a xs.length cap ∧ xs.length ≤ cap ∧ cap ≤ 9223372036854775807 := h.1.form
theorem RowMM.form {xs : List (List Mv)} (h : RowMM B w v xs) : ∃ a cap, v = .slice a xs.length cap ∧ xs.length ≤ cap ∧ cap ≤ 9223372036854775807 := by
  obtain ⟨hs, h1, h2⟩ := h
  exact h1.form
end
end Go.Proofs.YtelanndleinabaaDoor
