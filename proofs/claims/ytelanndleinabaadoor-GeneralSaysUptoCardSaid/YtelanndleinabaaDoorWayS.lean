/- WayP, WayS, joined. -/
import Derived.Test.YtelanndleinabaaDoorState
section
/- The moves of a set, in plain Lean; what join's rows are. -/
namespace Go.Proofs.YtelanndleinabaaDoor
open Go.RowKit
set_option linter.unusedVariables false

def combA (x y : AMv) : AMv := ⟨x.yes ||| y.yes, x.no ||| y.no, joinI x.to y.to⟩
def fitsA (nx : List AMv) (z : AMv) : Bool := (z.yes &&& z.no == 0) && !(nx.any fun o => sameB o z)
def addA (nx : List AMv) (z : AMv) : List AMv := if fitsA nx z then nx ++ [z] else nx
def stepY (x : AMv) : List AMv → List AMv → Option (List AMv)
  | [], nx => some nx
  | y :: ys, nx => if (addA nx (combA x y)).length ≤ 4096 then stepY x ys (addA nx (combA x y)) else none
def stepX (ys : List AMv) : List AMv → List AMv → Option (List AMv)
  | [], nx => some nx
  | x :: xs, nx => (stepY x ys nx).bind (stepX ys xs)
def waysRow (sts : List ASt) : List Int → List AMv → Option (List AMv)
  | [], row => some row
  | s :: l, row => (stepX (movesOf sts s) row []).bind (waysRow sts l)
def outs (sts : List ASt) (fin : List Int) : List AMv → List (List Int) → List Mv → Option (List Mv × List (List Int))
  | [], rows, acc => some (acc, rows)
  | x :: xs, rows, acc => (stateRes rows x.to).bind fun r => outs sts fin xs r.2 (acc ++ [⟨x.yes, x.no, (r.1 : Int), setsFrom sts x 0 fin 0⟩])
def waysRes (sts : List ASt) (fin : List Int) (rows : List (List Int)) (l : List Int) : Option (List Mv × List (List Int)) := (waysRow sts l [⟨0, 0, []⟩]).bind fun r => outs sts fin r rows []

/-- compact keeps every member and no neighbours alike. -/
theorem mem_compact {zs : List Int} {x : Int} : x ∈ Lib.compact zs ↔ x ∈ zs := by
  unfold Lib.compact Lib.compactUpTo
  simp only [List.mem_map, List.mem_filter, List.mem_range]
  constructor
  · rintro ⟨j, ⟨hj, _⟩, rfl⟩
    have : zs.toArray[j]! = zs[j] := by simp [hj]
    rw [this]; exact List.getElem_mem hj
  · intro h
    obtain ⟨j, hj, rfl⟩ := List.getElem_of_mem h
    have key : ∀ j, ∀ hj : j < zs.length, ∃ i, (i < zs.length ∧ Lib.keeps zs.toArray i = true) ∧ zs.toArray[i]! = zs[j] := by
      intro j
      induction j with
      | zero => intro hj; exact ⟨0, ⟨hj, by simp [Lib.keeps]⟩, by simp [hj]⟩
      | succ j ih =>
        intro hj
        by_cases he : zs[j + 1] = zs[j]
        · rw [he]; exact ih (by omega)
        · refine ⟨j + 1, ⟨hj, ?_⟩, by simp [hj]⟩
          have h1 : zs.toArray[j + 1]! = zs[j + 1] := by simp [hj]
          have h2 : zs.toArray[j]! = zs[j] := by simp [show j < zs.length by omega]
          apply Lib.keeps_pos
          rw [h1, Nat.add_sub_cancel, h2]; exact he
    exact key j hj
theorem compact_rises {zs : List Int} (h : zs.Pairwise (· ≤ ·)) : (Lib.compact zs).Pairwise (· < ·) := by
  unfold Lib.compact Lib.compactUpTo
  rw [List.pairwise_map]
  have hr : ((List.range zs.length).filter (Lib.keeps zs.toArray)).Pairwise (· < ·) := List.pairwise_lt_range.sublist List.filter_sublist
  have hm : ∀ j ∈ (List.range zs.length).filter (Lib.keeps zs.toArray), j < zs.length ∧ Lib.keeps zs.toArray j = true := fun j hj => by
    rw [List.mem_filter, List.mem_range] at hj; exact hj
  refine hr.imp_of_mem fun {i j} hi hj hij => ?_
  obtain ⟨i1, _⟩ := hm i hi
  obtain ⟨j1, j2⟩ := hm j hj
  have hle : ∀ a b (ha : a < zs.length) (hb : b < zs.length), a ≤ b → zs[a] ≤ zs[b] := fun a b ha hb hab => by
    rcases Nat.lt_or_eq_of_le hab with h1 | h1
    · exact List.pairwise_iff_getElem.1 h a b ha hb h1
    · subst h1; exact Int.le_refl _
  have e1 : zs.toArray[i]! = zs[i] := by simp [i1]
  have e2 : zs.toArray[j]! = zs[j] := by simp [j1]
  have e3 : zs.toArray[j - 1]! = zs[j - 1] := by simp [show j - 1 < zs.length by omega]
  rw [e1, e2]
  have hne : zs[j] ≠ zs[j - 1] := by
    unfold Lib.keeps at j2
    rw [decide_eq_true_iff] at j2
    rcases j2 with j2 | j2
    · omega
    · rw [e2, e3] at j2; exact j2
  have h1 := hle i (j - 1) i1 (by omega) (by omega)
  have h2 := hle (j - 1) j (by omega) j1 (by omega)
  omega
theorem mem_sortI {l : List Int} {x : Int} : x ∈ sortI l ↔ x ∈ l := by unfold sortI; exact List.mem_mergeSort
theorem sortI_sorted (l : List Int) : (sortI l).Pairwise (· ≤ ·) := by
  have := List.pairwise_mergeSort (le := fun x y : Int => decide (x ≤ y)) (fun a b c h1 h2 => by simp at *; omega) (fun a b => by simp; omega) l
  exact this.imp fun h => by simpa using h
theorem mem_joinI {a b : List Int} {x : Int} : x ∈ joinI a b ↔ x ∈ a ∨ x ∈ b := by
  unfold joinI; rw [mem_compact, mem_sortI, List.mem_append]
theorem joinI_rises (a b : List Int) : (joinI a b).Pairwise (· < ·) := compact_rises (sortI_sorted _)
/-- Rising numbers below N are at most N. -/
theorem rises_len {N : Nat} : ∀ {l : List Int} {m : Int}, l.Pairwise (· < ·) → (∀ x ∈ l, m ≤ x ∧ x < (N : Int)) → m ≤ (N : Int) → (l.length : Int) ≤ (N : Int) - m
  | [], m, _, _, hm => by simp; omega
  | x :: r, m, hp, hb, hm => by
    obtain ⟨b1, b2⟩ := hb x (List.mem_cons_self ..)
    rw [List.pairwise_cons] at hp
    have := rises_len (m := x + 1) hp.2 (fun y hy => ⟨by have := hp.1 y hy; omega, (hb y (List.mem_cons_of_mem _ hy)).2⟩) (by omega)
    rw [List.length_cons]; push_cast; omega
/-- A set of states: rising, from 0 to below N. -/
def SetN (N : Nat) (l : List Int) : Prop := l.Pairwise (· < ·) ∧ ∀ x ∈ l, 0 ≤ x ∧ x < (N : Int)
theorem SetN.len {N : Nat} {l : List Int} (h : SetN N l) : l.length ≤ N := by
  have := rises_len (m := 0) h.1 h.2 (by omega)
  omega
theorem SetN.small {N : Nat} {l : List Int} (h : SetN N l) (hN : N ≤ 100) : Small l := ⟨fun x hx => ⟨(h.2 x hx).1, by have := (h.2 x hx).2; omega⟩, by have := h.len; omega⟩
theorem SetN.join {N : Nat} {a b : List Int} (ha : SetN N a) (hb : SetN N b) : SetN N (joinI a b) := ⟨joinI_rises a b, fun x hx => by
  rcases mem_joinI.1 hx with h | h
  · exact ha.2 x h
  · exact hb.2 x h⟩
theorem SetN.nil (N : Nat) : SetN N [] := ⟨.nil, fun x hx => by cases hx⟩
theorem setFrom_rises {most : Int} : ∀ {l : List Int} {p : Option Int}, setFrom most p l = true → l.Pairwise (· < ·) ∧ (∀ x ∈ l, 0 ≤ x ∧ x ≤ most) ∧ ∀ q, p = some q → ∀ x ∈ l, q < x
  | [], p, _ => ⟨.nil, by simp, by simp⟩
  | x :: r, p, h => by
    unfold setFrom at h
    simp only [Bool.and_eq_true, decide_eq_true_eq] at h
    obtain ⟨⟨⟨h1, h2⟩, h3⟩, h4⟩ := h
    obtain ⟨i1, i2, i3⟩ := setFrom_rises h4
    refine ⟨List.pairwise_cons.2 ⟨i3 x rfl, i1⟩, ?_, ?_⟩
    · intro y hy
      rcases List.mem_cons.1 hy with rfl | hy
      · exact ⟨h1, h2⟩
      · exact i2 y hy
    · rintro q rfl y hy
      have hq : q < x := by simpa [above] using h3
      rcases List.mem_cons.1 hy with rfl | hy
      · exact hq
      · have := i3 x rfl y hy; omega
theorem setL_setN {most : Int} {N : Nat} {l : List Int} (h : setL l most = true) (hm : most < (N : Int)) : SetN N l := by
  obtain ⟨h1, h2, _⟩ := setFrom_rises h
  exact ⟨h1, fun x hx => ⟨(h2 x hx).1, by have := (h2 x hx).2; omega⟩⟩
end Go.Proofs.YtelanndleinabaaDoor
end
section
/- Rows of moves that the call made. -/
namespace Go.Proofs.YtelanndleinabaaDoor
open Go.RowKit
set_option linter.unusedVariables false

theorem Tryd.info89 : (Tryd.prog.info? 89).map (fun i => (i.zero, i.size, i.bytes)) = some (some (.agg #[.int .u64 0, .int .u64 0, .slice none 0 0]), 3, 40) := by kernel_rfl
theorem Tryd.info53 : (Tryd.prog.info? 53).map (fun i => (i.zero, i.size, i.bytes)) = some (some (.agg #[.int .u64 0, .int .u64 0, .int .i64 0, .int .u64 0]), 4, 32) := by kernel_rfl
/-- A row of ints that the call made. -/
def OwnI (B : Nat) (w : World) (v : Value) (xs : List Int) : Prop := w.ownsRow B 3 1 v xs.length (ints xs) ∧ ∀ x ∈ xs, -9223372036854775808 ≤ x ∧ x ≤ 9223372036854775807
/-- .. and one of moves. -/
def OwnN (B : Nat) (w : World) (v : Value) (ms : List AMv) : Prop := ∃ ps : List AP, ps.map Prod.fst = ms ∧ w.ownsRow B 89 3 v ps.length (aps ps) ∧ ∀ p ∈ ps, OwnI B w p.2 p.1.to ∧ p.1.yes < 18446744073709551616 ∧ p.1.no < 18446744073709551616
section
variable {B B' : Nat} {w w' : World} {v : Value} {ms : List AMv} {xs : List Int}
theorem OwnI.below (h : OwnI B w v xs) (hb : Below w.heap.size w w') : OwnI B w' v xs := ⟨(Fr.of_below hb (fun _ => False)).owns h.1 (fun _ _ h => h), h.2⟩
theorem OwnI.mono (h : OwnI B w v xs) (hb : B' ≤ B) : OwnI B' w v xs := ⟨own_mono h.1 hb, h.2⟩
theorem OwnI.read (h : OwnI B w v xs) : RowI w.heap.size w v xs := ⟨Row.of_owns h.1, h.2⟩
theorem OwnI.any (h : OwnI B w v xs) (hb : B' ≤ B) : AnyI B' w v xs := .inr (h.mono hb)
theorem OwnI.kq (h : OwnI B w v xs) (hk : Kq w w') : OwnI B w' v xs := ⟨hk.owns h.1 (by decide) (by decide), h.2⟩
theorem OwnI.nil (B : Nat) (w : World) : OwnI B w (.slice none 0 0) [] := ⟨World.ownsRow_nil w B 3 1, fun x hx => by cases hx⟩
theorem OwnI.grown {base size n : Nat} {e : TypeId} {u : Value} {ys : List Value} (h : OwnI B w v xs) (ho : w.ownsRow base e size u n ys) (hg : w.grownBy w' u.ownBlock) (hne : e ≠ 3) : OwnI B w' v xs :=
  ⟨h.1.kept hg (own_pair h.1 ho (Ne.symm hne)), h.2⟩
theorem OwnN.below (h : OwnN B w v ms) (hb : Below w.heap.size w w') : OwnN B w' v ms := by
  obtain ⟨ps, h1, h2, h3⟩ := h
  exact ⟨ps, h1, (Fr.of_below hb (fun _ => False)).owns h2 (fun _ _ h => h), fun p hp => ⟨(h3 p hp).1.below hb, (h3 p hp).2⟩⟩
theorem OwnN.mono (h : OwnN B w v ms) (hb : B' ≤ B) : OwnN B' w v ms := by
  obtain ⟨ps, h1, h2, h3⟩ := h
  exact ⟨ps, h1, own_mono h2 hb, fun p hp => ⟨(h3 p hp).1.mono hb, (h3 p hp).2⟩⟩
theorem OwnN.kq (h : OwnN B w v ms) (hk : Kq w w') : OwnN B w' v ms := by
  obtain ⟨ps, h1, h2, h3⟩ := h
  exact ⟨ps, h1, hk.owns h2 (by decide) (by decide), fun p hp => ⟨(h3 p hp).1.kq hk, (h3 p hp).2⟩⟩
theorem OwnN.grown {base size n : Nat} {e : TypeId} {u : Value} {ys : List Value} (h : OwnN B w v ms) (ho : w.ownsRow base e size u n ys) (hg : w.grownBy w' u.ownBlock) (h1 : e ≠ 3) (h2 : e ≠ 89) : OwnN B w' v ms := by
  obtain ⟨ps, k1, k2, k3⟩ := h
  exact ⟨ps, k1, k2.kept hg (own_pair k2 ho (Ne.symm h2)), fun p hp => ⟨(k3 p hp).1.grown ho hg h1, (k3 p hp).2⟩⟩
theorem OwnN.nil (B : Nat) (w : World) : OwnN B w (.slice none 0 0) [] := ⟨[], rfl, World.ownsRow_nil w B 89 3, fun x hx => by cases hx⟩
theorem OwnN.rowA (h : OwnN B w v ms) : RowA w.heap.size w v ms := by
  obtain ⟨ps, h1, h2, h3⟩ := h
  exact ⟨ps, h1, Row.of_owns h2, fun p hp => ⟨(h3 p hp).1.read, (h3 p hp).2⟩⟩
theorem OwnN.form (h : OwnN B w v ms) : ∃ a cap, v = .slice a ms.length cap ∧ ms.length ≤ cap ∧ cap ≤ maxLen := by
  obtain ⟨ps, h1, h2, h3⟩ := h
  rw [← h1, List.length_map]
  exact owns_form h2
theorem OwnN.push {z : AP} {v' : Value} {ps : List AP} (h2 : w.ownsRow B 89 3 v ps.length (aps ps)) (h3 : ∀ p ∈ ps, OwnI B w p.2 p.1.to ∧ p.1.yes < 18446744073709551616 ∧ p.1.no < 18446744073709551616)
    (hz : OwnI B w z.2 z.1.to ∧ z.1.yes < 18446744073709551616 ∧ z.1.no < 18446744073709551616) (hg : w.grownBy w' v.ownBlock) (hr : w'.ownsRow B 89 3 v' (ps.length + 1) (aps ps ++ apCells z)) : OwnN B w' v' (ps.map Prod.fst ++ [z.1]) := by
  refine ⟨ps ++ [z], by simp, ?_, ?_⟩
  · rw [List.length_append, List.length_singleton, aps_snoc]; exact hr
  · intro p hp
    rcases List.mem_append.1 hp with hp | hp
    · exact ⟨(h3 p hp).1.grown h2 hg (by decide), (h3 p hp).2⟩
    · rw [List.mem_singleton] at hp
      subst hp
      exact ⟨hz.1.grown h2 hg (by decide), hz.2⟩
theorem OwnN.one (w : World) : OwnN w.heap.size (w.alloc (.cells #[.int .u64 0, .int .u64 0, .slice none 0 0] 89)) (.slice (some ⟨w.heap.size, 0, none⟩) 1 1) [⟨0, 0, []⟩] := by
  refine ⟨[(⟨0, 0, []⟩, .slice none 0 0)], rfl, World.ownsRow_lit w #[.int .u64 0, .int .u64 0, .slice none 0 0] 1 (Nat.le_refl _) (by unfold maxLen; omega) rfl, ?_⟩
  intro p hp
  rw [List.mem_singleton] at hp
  subst hp
  exact ⟨OwnI.nil _ _, by simp, by simp⟩
/-- What a function value of ways asks: is there a move just like z? -/
theorem ways_pred {bz : Nat} {ps : List AP} {z : AP} (h : RowP w.heap.size w v ps) (h3 : ∀ p ∈ ps, RowI w.heap.size w p.2 p.1.to) (hz : RowI w.heap.size w z.2 z.1.to)
    (hH : Holds w bz 89 (apCells z)) : Calls Tryd.prog 48 #[v, .func (.func 49) #[] #[.pointer (some ⟨bz, 0, none⟩)]] w fun e w' => e = .returned (.bool ((ps.map Prod.fst).any fun o => sameB o z.1)) ∧ Below w.heap.size w w' := by
  have := containsFuncP 49 #[.pointer (some ⟨bz, 0, none⟩)] enters49 (fun p => sameB p.1 z.1) v ps w h (fun w' hb y hy => by
    have hH' := hH.belowAll hb
    have c0 := hH'.cell 0
    have c1 := hH'.cell 1
    have c2 := hH'.cell 2
    simp only [apCells, List.getElem?_cons_zero, List.getElem?_cons_succ] at c0 c1 c2
    exact ways1 y z bz w' c0 c1 c2 (((h3 y hy).below hb).mono hb.size) ((hz.below hb).mono hb.size) hH'.lt)
  have e : ((ps.map Prod.fst).any fun o => sameB o z.1) = ps.any fun p => sameB p.1 z.1 := by rw [List.any_map]; rfl
  rw [e]
  exact this
end
end Go.Proofs.YtelanndleinabaaDoor
end
