/- Rows of rows that the call made; the reference's graph. -/
import Derived.Test.YtelanndleinabaaDoorOfS
import Derived.Test.YtelanndleinabaaDoorReach
import Derived.Test.YtelanndleinabaaDoorLetter
import Derived.Test.YtelanndleinabaaDoorGAcc
import Derived.Test.YtelanndleinabaaDoorOften
namespace Go.Proofs.YtelanndleinabaaDoor
open Go.RowKit
set_option linter.unusedVariables false

theorem Tryd.info26 : (Tryd.prog.info? 26).map (fun i => (i.zero, i.size, i.bytes)) = some (some (.slice none 0 0), 1, 24) := by kernel_rfl
def OwnRR (eo ei : TypeId) (B : Nat) (w : World) (v : Value) (ls : List (List Value)) : Prop := ∃ us : List Value, w.ownsRow B eo 1 v ls.length us ∧ ∀ (i : Nat) (h : i < ls.length), ∃ u, us[i]? = some u ∧ w.ownsRow B ei 1 u ls[i].length ls[i]
section
variable {eo ei : TypeId} {B : Nat} {w w' : World} {v v' u : Value} {ls : List (List Value)}
theorem OwnRR.nil (eo ei : TypeId) (B : Nat) (w : World) : OwnRR eo ei B w (.slice none 0 0) [] := ⟨[], World.ownsRow_nil w B eo 1, fun i hi => by simp at hi⟩
theorem OwnRR.below (h : OwnRR eo ei B w v ls) (hb : Below w.heap.size w w') : OwnRR eo ei B w' v ls := by
  obtain ⟨us, h1, h2⟩ := h
  have hF := Fr.of_below hb (fun _ => False)
  exact ⟨us, hF.owns h1 (fun _ _ h => h), fun i hi => let ⟨u, a, b⟩ := h2 i hi; ⟨u, a, hF.owns b (fun _ _ h => h)⟩⟩
theorem OwnRR.put {g i : Nat} {t : TypeId} {cs : List Value} {u : Value} (h : OwnRR eo ei B w v ls) (hH : Holds w g t cs) (h1 : eo ≠ t) (h2 : ei ≠ t) : OwnRR eo ei B (w.setCell ⟨g, i, none⟩ u) v ls := by
  obtain ⟨us, k1, k2⟩ := h
  exact ⟨us, own_put k1 hH h1, fun i hi => let ⟨u, a, b⟩ := k2 i hi; ⟨u, a, own_put b hH h2⟩⟩
theorem OwnRR.grown {e : TypeId} {base size n : Nat} {x : Value} {ys : List Value} (h : OwnRR eo ei B w v ls) (ho : w.ownsRow base e size x n ys) (hg : w.grownBy w' x.ownBlock) (h1 : eo ≠ e) (h2 : ei ≠ e) : OwnRR eo ei B w' v ls := by
  obtain ⟨us, k1, k2⟩ := h
  exact ⟨us, k1.kept hg (own_pair k1 ho h1), fun i hi => let ⟨u, a, b⟩ := k2 i hi; ⟨u, a, b.kept hg (own_pair b ho h2)⟩⟩
theorem OwnRR.form (h : OwnRR eo ei B w v ls) : ∃ a cap, v = .slice a ls.length cap ∧ ls.length ≤ cap ∧ cap ≤ maxLen := by
  obtain ⟨us, h1, _⟩ := h
  exact owns_form h1
theorem OwnRR.push {us : List Value} {xs : List Value} (hne : ei ≠ eo) (h1 : w.ownsRow B eo 1 v ls.length us) (h2 : ∀ (i : Nat) (h : i < ls.length), ∃ u, us[i]? = some u ∧ w.ownsRow B ei 1 u ls[i].length ls[i])
    (hu : w.ownsRow B ei 1 u xs.length xs) (hg : w.grownBy w' v.ownBlock) (hr : w'.ownsRow B eo 1 v' (ls.length + 1) (us ++ [u])) : OwnRR eo ei B w' v' (ls ++ [xs]) := by
  have hl : us.length = ls.length := by have := h1.1; omega
  refine ⟨us ++ [u], by rw [List.length_append, List.length_singleton]; exact hr, fun i hi => ?_⟩
  rw [List.length_append, List.length_singleton] at hi
  by_cases hin : i < ls.length
  · obtain ⟨x, a, b⟩ := h2 i hin
    refine ⟨x, by rw [List.getElem?_append_left (by omega)]; exact a, ?_⟩
    rw [List.getElem_append_left hin]
    exact b.kept hg (own_pair b h1 hne)
  · have hie : i = ls.length := by omega
    subst hie
    refine ⟨u, by rw [List.getElem?_append_right (by omega), hl]; simp, ?_⟩
    rw [List.getElem_append_right (by omega)]
    simp only [Nat.sub_self, List.getElem_cons_zero]
    exact hu.kept hg (own_pair hu h1 hne)
end
/-- The rows of the reference's graph, for the first m pairs. -/
def rowT (adj : Adj) (m : Nat) : List (List Value) := (List.range m).map fun p => ints ((adj p).map fun e => (e.1 : Int))
def rowZ (adj : Adj) (m : Nat) : List (List Value) := (List.range m).map fun p => u64s ((adj p).map fun e => e.2)
theorem rowT_len (adj : Adj) (m : Nat) : (rowT adj m).length = m := by simp [rowT]
theorem rowZ_len (adj : Adj) (m : Nat) : (rowZ adj m).length = m := by simp [rowZ]
theorem rowT_succ (adj : Adj) (m : Nat) : rowT adj (m + 1) = rowT adj m ++ [ints ((adj m).map fun e => (e.1 : Int))] := by simp [rowT, List.range_succ]
theorem rowZ_succ (adj : Adj) (m : Nat) : rowZ adj (m + 1) = rowZ adj m ++ [u64s ((adj m).map fun e => e.2)] := by simp [rowZ, List.range_succ]
/-- The graph's sets, as they are read. -/
def GraphZ (B : Nat) (w : World) (v : Value) (adj : Adj) (N : Nat) : Prop := ∃ hs : List Value, Row B w 1 v N hs ∧ ∀ p, p < N → ∃ u, hs[p]? = some u ∧ RowU B w u ((adj p).map fun e => e.2)
theorem graphTo_of {B N : Nat} {w : World} {v : Value} {adj : Adj} (h : OwnRR 22 3 B w v (rowT adj N)) (hs : ∀ p, p < N → ∀ e ∈ adj p, e.1 ≤ 9223372036854775807) : GraphTo w.heap.size w v adj N := by
  obtain ⟨us, h1, h2⟩ := h
  rw [rowT_len] at h1
  refine ⟨us, ?_, fun i hi => ?_⟩
  · have := Row.of_owns h1
    rw [List.length_map, List.length_range]
    exact this
  · have hi' : i < N := by simpa using hi
    obtain ⟨u, a, b⟩ := h2 i (by rw [rowT_len]; exact hi')
    refine ⟨u, a, ?_⟩
    have e1 : (rowT adj N)[i]'(by rw [rowT_len]; exact hi') = ints ((adj i).map fun e => (e.1 : Int)) := by simp [rowT]
    rw [e1] at b
    have e2 : ((List.range N).map fun x => (adj x).map fun e => (e.1 : Int))[i] = (adj i).map fun e => (e.1 : Int) := by simp
    rw [e2]
    have b' := Row.of_owns b
    rw [show (ints ((adj i).map fun e => (e.1 : Int))).length = ((adj i).map fun e => (e.1 : Int)).length by simp [ints]] at b'
    refine ⟨b', fun x hx => ?_⟩
    obtain ⟨e, he, rfl⟩ := List.mem_map.1 hx
    have := hs i hi' e he
    omega
theorem graphZ_of {B N : Nat} {w : World} {v : Value} {adj : Adj} (h : OwnRR 26 49 B w v (rowZ adj N)) (hs : ∀ p, p < N → ∀ e ∈ adj p, e.2 < 18446744073709551616) : GraphZ w.heap.size w v adj N := by
  obtain ⟨us, h1, h2⟩ := h
  rw [rowZ_len] at h1
  refine ⟨us, Row.of_owns h1, fun i hi => ?_⟩
  obtain ⟨u, a, b⟩ := h2 i (by rw [rowZ_len]; exact hi)
  refine ⟨u, a, ?_⟩
  have e1 : (rowZ adj N)[i]'(by rw [rowZ_len]; exact hi) = u64s ((adj i).map fun e => e.2) := by simp [rowZ]
  rw [e1] at b
  have b' := Row.of_owns b
  rw [show (u64s ((adj i).map fun e => e.2)).length = ((adj i).map fun e => e.2).length by simp [u64s]] at b'
  refine ⟨b', fun x hx => ?_⟩
  obtain ⟨e, he, rfl⟩ := List.mem_map.1 hx
  exact hs i hi e he
theorem stepsOf_at {g : Gen} {l : Las} {i s : Nat} (hs : s < g.states.length) : stepsOf g l (i * g.states.length + s) = stepsIn g.states.length (nextPl l.pre.length (l.pre.length + l.loop.length) i) ((l.pre ++ l.loop).getD i 0) (g.states.getD s []) := by
  unfold stepsOf
  have h0 : 0 < g.states.length := by omega
  rw [show (i * g.states.length + s) / g.states.length = i by rw [Nat.mul_comm, Nat.mul_add_div h0, Nat.div_eq_of_lt hs]; rfl, show (i * g.states.length + s) % g.states.length = s by rw [Nat.mul_comm, Nat.mul_add_mod, Nat.mod_eq_of_lt hs]]
/-- Where the reference's walk stands: m pairs are done. -/
structure PrW (β bL bR bO : Nat) (cg cl : List Value) (adj : Adj) (w wr : World) (vT vZ : Value) (m : Nat) : Prop where
  g : Holds wr β 25 cg
  l : Holds wr bL 28 cl
  r : Holds wr bR 59 [.slice none 0 0, .slice none 0 0]
  o : Holds wr bO 59 [vT, vZ]
  t : OwnRR 22 3 β wr vT (rowT adj m)
  z : OwnRR 26 49 β wr vZ (rowZ adj m)
  b : Below β w wr
section
variable {β bL bR bO m : Nat} {cg cl : List Value} {adj : Adj} {w wr wr' : World} {vT vZ : Value}
theorem PrW.below (h : PrW β bL bR bO cg cl adj w wr vT vZ m) (hb : Below wr.heap.size wr wr') : PrW β bL bR bO cg cl adj w wr' vT vZ m :=
  ⟨h.g.belowAll hb, h.l.belowAll hb, h.r.belowAll hb, h.o.belowAll hb, h.t.below hb, h.z.below hb, h.b.trans (hb.mono (Nat.le_of_lt h.g.lt))⟩
/-- The row of what a pair leads to is laid down. -/
theorem PrW.pushT {us : List Value} {vT' u : Value} {w6 : World} (h : PrW β bL bR bO cg cl adj w wr vT vZ m) (h1 : wr.ownsRow β 22 1 vT m us) (h2 : ∀ (i : Nat) (h : i < (rowT adj m).length), ∃ u, us[i]? = some u ∧ wr.ownsRow β 3 1 u (rowT adj m)[i].length (rowT adj m)[i])
    (hu : wr.ownsRow β 3 1 u (adj m).length (ints ((adj m).map fun e => (e.1 : Int)))) (hg : wr.grownBy w6 vT.ownBlock) (hr : w6.ownsRow β 22 1 vT' (m + 1) (us ++ [u])) (hRO : bR ≠ bO) (hO : β ≤ bO) :
    Holds (w6.setCell ⟨bO, 0, none⟩ vT') β 25 cg ∧ Holds (w6.setCell ⟨bO, 0, none⟩ vT') bL 28 cl ∧ Holds (w6.setCell ⟨bO, 0, none⟩ vT') bR 59 [.slice none 0 0, .slice none 0 0] ∧ Holds (w6.setCell ⟨bO, 0, none⟩ vT') bO 59 [vT', vZ] ∧
    OwnRR 22 3 β (w6.setCell ⟨bO, 0, none⟩ vT') vT' (rowT adj (m + 1)) ∧ OwnRR 26 49 β (w6.setCell ⟨bO, 0, none⟩ vT') vZ (rowZ adj m) ∧ Below β w (w6.setCell ⟨bO, 0, none⟩ vT') ∧ Holds w6 bO 59 [vT, vZ] := by
  have hβ : β ≤ wr.heap.size := Nat.le_of_lt h.g.lt
  have g6 := own_kept h1 hg h.g (by decide)
  have l6 := own_kept h1 hg h.l (by decide)
  have r6 := own_kept h1 hg h.r (by decide)
  have o6 := own_kept h1 hg h.o (by decide)
  have t6 : OwnRR 22 3 β w6 vT' (rowT adj (m + 1)) := by
    rw [rowT_succ]
    refine OwnRR.push (by decide) (by rw [rowT_len]; exact h1) h2 ?_ hg (by rw [rowT_len]; exact hr)
    rw [show (ints ((adj m).map fun e => (e.1 : Int))).length = (adj m).length by simp [ints]]
    exact hu
  have z6 := h.z.grown h1 hg (by decide) (by decide)
  exact ⟨g6.far (p := ⟨bO, 0, none⟩) (g6.ne_of_type o6 (by decide)) _, l6.far (p := ⟨bO, 0, none⟩) (l6.ne_of_type o6 (by decide)) _, r6.far (p := ⟨bO, 0, none⟩) hRO _, o6.put 0 _, t6.put o6 (by decide) (by decide), z6.put o6 (by decide) (by decide),
    (h.b.grown hg hβ (fun k e => (h1.lt k e).1)).setCell (p := ⟨bO, 0, none⟩) hO _, o6⟩
theorem PrW.pushZ {us : List Value} {vZ' u : Value} {w6 : World} (g : Holds wr β 25 cg) (l : Holds wr bL 28 cl) (r : Holds wr bR 59 [.slice none 0 0, .slice none 0 0]) (o : Holds wr bO 59 [vT, vZ]) (t : OwnRR 22 3 β wr vT (rowT adj (m + 1))) (b : Below β w wr)
    (h1 : wr.ownsRow β 26 1 vZ m us) (h2 : ∀ (i : Nat) (h : i < (rowZ adj m).length), ∃ u, us[i]? = some u ∧ wr.ownsRow β 49 1 u (rowZ adj m)[i].length (rowZ adj m)[i])
    (hu : wr.ownsRow β 49 1 u (adj m).length (u64s ((adj m).map fun e => e.2))) (hg : wr.grownBy w6 vZ.ownBlock) (hr : w6.ownsRow β 26 1 vZ' (m + 1) (us ++ [u])) (hRO : bR ≠ bO) (hO : β ≤ bO) :
    PrW β bL bR bO cg cl adj w (w6.setCell ⟨bO, 1, none⟩ vZ') vT vZ' (m + 1) ∧ Holds w6 bO 59 [vT, vZ] := by
  have hβ : β ≤ wr.heap.size := Nat.le_of_lt g.lt
  have g6 := own_kept h1 hg g (by decide)
  have l6 := own_kept h1 hg l (by decide)
  have r6 := own_kept h1 hg r (by decide)
  have o6 := own_kept h1 hg o (by decide)
  have z6 : OwnRR 26 49 β w6 vZ' (rowZ adj (m + 1)) := by
    rw [rowZ_succ]
    refine OwnRR.push (by decide) (by rw [rowZ_len]; exact h1) h2 ?_ hg (by rw [rowZ_len]; exact hr)
    rw [show (u64s ((adj m).map fun e => e.2)).length = (adj m).length by simp [u64s]]
    exact hu
  have t6 := t.grown h1 hg (by decide) (by decide)
  exact ⟨⟨g6.far (p := ⟨bO, 1, none⟩) (g6.ne_of_type o6 (by decide)) _, l6.far (p := ⟨bO, 1, none⟩) (l6.ne_of_type o6 (by decide)) _, r6.far (p := ⟨bO, 1, none⟩) hRO _, o6.put 1 _, t6.put o6 (by decide) (by decide), z6.put o6 (by decide) (by decide),
    (b.grown hg hβ (fun k e => (h1.lt k e).1)).setCell (p := ⟨bO, 1, none⟩) hO _⟩, o6⟩
end
end Go.Proofs.YtelanndleinabaaDoor
