/- Mark, Exv, Mov, Gmv, Trn, Exp, Two, Nets, Emp, Known, Agn, joined. -/
import Derived.Test.YtcopoaaofjeklaaMa5
import Derived.Test.YtcopoaaofjeklaaMa4
import Derived.TacticsInMore
import Derived.Carry
import Derived.Shelf.Abstract
import Derived.Test.YtcopoaaofjeklaaNode
import Derived.Test.YtcopoaaofjeklaaMa9
import Derived.Deep.RegionHeld3
section
/- A function that is left with many marks of range-over-func loops among its deferred calls. -/
namespace Go.Proofs.Ytcopoaaofjeklaa
open Go.RowKit
set_option linter.unusedVariables false
set_option linter.unusedSimpArgs false

def mark (D : Nat) : Deferred := { target := .collected D, args := #[] }
theorem leaves_marks {F : Fence} {n : Nat} {P : Program} {fn : Func} {tmps : Array Value} {R : Ending → World → Prop} {u : FrameMode} (hu : u ≠ .run) : ∀ (ds : List Nat) (w : World), ds.Nodup → (∀ D ∈ ds, w.heap[D]? = some (.deferred (some []))) →
    (∀ w', Fr (fun k => k ∈ ds) w w' → LeavesInM F n P fn tmps R [] u w') → LeavesInM F n P fn tmps R (ds.map mark) u w
  | [], w, _, _, h => h w (Fr.refl _ _)
  | D :: ds, w, hd, hm, h => by
    have hD := hm D (by simp)
    have hd2 := List.nodup_cons.1 hd
    refine ⟨hu, .inl ⟨D, _, rfl, run_takeDeferred hD, leaves_marks hu ds _ hd2.2 (fun E hE => ?_) fun w' hf => ?_⟩⟩
    · exact (World.putObj_heap_other (by rintro rfl; exact hd2.1 hE)).trans (hm E (by simp [hE]))
    · refine h w' (Fr.trans (F := fun k => k ∈ D :: ds) ((Fr.refl _ w).grown (grownBy_putObj' w D _) fun k hk _ => ?_) hf fun k _ hk => by simp [hk])
      injection hk with hk
      simp [hk]
end Go.Proofs.Ytcopoaaofjeklaa
end
section
/- What lies in memory while a graph is explored. -/
namespace Go.Proofs.Ytcopoaaofjeklaa
open Go.RowKit Go.Maps
set_option linter.unusedVariables false
set_option linter.unusedSimpArgs false

/-- The blocks of Explore's variables. -/
structure ExB where
  b3 : Nat
  b4 : Nat
  b5 : Nat
  b6 : Nat
  b7 : Nat
  b8 : Nat
  b9 : Nat
  b10 : Nat
  m : Nat
/-- Where what has been found lies: in none of the blocks that are written into. -/
def ExP (base : Nat) (B : ExB) (vs vo : Value) (k : Nat) : Prop := (base ≤ k ∧ k ≠ B.b4 ∧ k ≠ B.b5 ∧ k ≠ B.b6) ∧ k ≠ B.b7 ∧ k ≠ B.b9 ∧ k ≠ B.b10 ∧ k ≠ B.m ∧ vs.ownBlock ≠ some k ∧ vo.ownBlock ≠ some k
theorem Holds.kept_row {w w' : World} {g : Nat} {t : TypeId} {cs : List Value} {row : Option Nat} (h : Holds w g t cs) (hg : w.grownBy w' row) (hr : ∀ r, row = some r → ∃ o : Obj, w.heap[r]? = some o ∧ o.isCells = false) : Holds w' g t cs :=
  h.of_eq (hg.block g h.lt fun e => by
    obtain ⟨o, ho, hc⟩ := hr g e.symm
    unfold Holds at h
    rw [h] at ho
    cases ho
    cases hc)
theorem owns_kept {w w' : World} {base sz n : Nat} {e : TypeId} {v : Value} {xs : List Value} {row : Option Nat} (h : w.ownsRow base e sz v n xs) (hg : w.grownBy w' row) (hr : ∀ r, row = some r → ∃ o : Obj, w.heap[r]? = some o ∧ o.isCells = false) : w'.ownsRow base e sz v n xs := by
  refine ((Fr.refl (fun k => row = some k) w).grown hg fun k hk _ => hk).owns h fun g hgo hrow => ?_
  obtain ⟨o, ho, hc⟩ := hr g hrow
  rcases h.2 with ⟨h0, _⟩ | ⟨g', cap, cur, hv, _, hh, _⟩
  · rw [h0] at hgo; simp [Value.ownBlock] at hgo
  · rw [hv] at hgo
    simp only [Value.ownBlock, Option.some.injEq] at hgo
    subst hgo
    rw [hh] at ho
    cases ho
    cases hc
theorem HoldsR.kept_row {w w' : World} {g : Nat} {t : TypeId} {cs : List Value} {row : Option Nat} (h : HoldsR w g t cs) (hg : w.grownBy w' row) (hr : ∀ r, row = some r → ∃ o : Obj, w.heap[r]? = some o ∧ o.isCells = false) : HoldsR w' g t cs :=
  h.of_eq (hg.block g h.lt fun e => by
    obtain ⟨o, ho, hc⟩ := hr g e.symm
    obtain ⟨fr, h⟩ := h
    rw [h] at ho
    cases ho
    cases hc)
theorem RowL.kept {P : Nat → Prop} {w w' : World} {size n : Nat} {v : Value} {f : List Value} {row : Option Nat} (h : RowL P w size v n f) (hg : w.grownBy w' row) (hr : ∀ r, row = some r → ∃ o : Obj, w.heap[r]? = some o ∧ o.isCells = false) : RowL P w' size v n f := by
  obtain ⟨a, cap, h1, h2, h3, h4, h5, h6⟩ := h
  refine ⟨a, cap, h1, h2, h3, h4, h5, fun hn => ?_⟩
  obtain ⟨g, o, cs, t, k1, k2, k3, k4⟩ := h6 hn
  exact ⟨g, o, cs, t, k1, k2, k3.kept_row hg hr, k4⟩
theorem ArcF.kept {P : Nat → Prop} {w w' : World} {a : PArc} {c : List Value} {row : Option Nat} (hg : w.grownBy w' row) (hr : ∀ r, row = some r → ∃ o : Obj, w.heap[r]? = some o ∧ o.isCells = false) (h : ArcF P w a c) : ArcF P w' a c := by
  obtain ⟨vr, vw, h1, h2, h3⟩ := h
  exact ⟨vr, vw, h1, h2.kept hg hr, h3.kept hg hr⟩
end Go.Proofs.Ytcopoaaofjeklaa
end
section
/- A round's range over the moves: what lies in memory, and what each step of a move turns. -/
namespace Go.Proofs.Ytcopoaaofjeklaa
open Go.RowKit Go.Maps
set_option linter.unusedVariables false
set_option linter.unusedSimpArgs false

theorem stepAs_snoc (most : Nat) : ∀ (l : List PArc) (a : PArc) (st : List Nat), stepAs most st (l ++ [a]) = (match stepAs most st l with
    | none => none
    | some (st1, bs) => match stepA most st1 a with
      | none => none
      | some (st2, b) => some (st2, bs ++ [b]))
  | [], a, st => by
    simp only [List.nil_append, stepAs]
    cases stepA most st a with
    | none => rfl
    | some p => rfl
  | c :: l, a, st => by
    simp only [List.cons_append, stepAs]
    cases stepA most st c with
    | none => rfl
    | some p =>
      simp only
      rw [stepAs_snoc most l a p.1]
      cases stepAs most p.1 l with
      | none => rfl
      | some q =>
        simp only
        cases stepA most q.1 a with
        | none => rfl
        | some r => rfl
theorem stepAs_app_none (most : Nat) : ∀ (l m : List PArc) (st : List Nat), stepAs most st l = none → stepAs most st (l ++ m) = none
  | [], m, st, h => by rw [stepAs] at h; cases h
  | c :: l, m, st, h => by
    rw [stepAs] at h
    rw [List.cons_append, stepAs]
    split at h
    · rename_i e; rfl
    · rename_i st1 b e
      split at h
      · rename_i e2; rw [stepAs_app_none most l m st1 e2]
      · cases h
theorem stepA_met {n most : Nat} {st st1 : List Nat} {a b : PArc} (h : Met n st) (ha : 0 ≤ a.to ∧ a.to < (n : Int)) (hs : stepA most st a = some (st1, b)) : Met n st1 ∧ st <+: st1 := by
  unfold stepA at hs
  split at hs
  · split at hs
    · injection hs with hs; injection hs with hs _; subst hs; exact ⟨h, List.prefix_refl _⟩
    · rename_i hin
      split at hs
      · cases hs
      · injection hs with hs; injection hs with hs _; subst hs
        refine ⟨⟨?_, ?_, by simp⟩, List.prefix_append _ _⟩
        · rw [List.nodup_append]
          refine ⟨h.nodup, by simp, fun x hx y hy e => ?_⟩
          rw [List.mem_singleton] at hy
          exact hin (by rw [← hy, ← e]; exact hx)
        · intro x hx
          rcases List.mem_append.1 hx with hx | hx
          · exact h.lt x hx
          · rw [List.mem_singleton] at hx; omega
  · injection hs with hs; injection hs with hs _; subst hs; exact ⟨h, List.prefix_refl _⟩
theorem stepAs_met {n most : Nat} : ∀ {l : List PArc} {st st1 : List Nat} {bs : List PArc}, Met n st → (∀ a ∈ l, 0 ≤ a.to ∧ a.to < (n : Int)) → stepAs most st l = some (st1, bs) → Met n st1 ∧ st <+: st1 ∧ bs.length = l.length
  | [], st, st1, bs, h, ha, hs => by
    rw [stepAs] at hs; injection hs with hs; injection hs with hs hs'; subst hs; subst hs'; exact ⟨h, List.prefix_refl _, rfl⟩
  | a :: l, st, st1, bs, h, ha, hs => by
    rw [stepAs] at hs
    split at hs
    · cases hs
    · rename_i st' b e1
      split at hs
      · cases hs
      · rename_i st2 bs2 e2
        injection hs with hs; injection hs with hs hs'; subst hs; subst hs'
        obtain ⟨h1, h2⟩ := stepA_met h (ha a (by simp)) e1
        obtain ⟨h3, h4, h5⟩ := stepAs_met h1 (fun x hx => ha x (by simp [hx])) e2
        exact ⟨h3, h2.trans h4, by simp [h5]⟩

/-- What a stretch of the body leaves as it was: what is no cells from lo on, and the marks. -/
structure Turns (lo : Nat) (W W' : World) : Prop where
  keeps : KeepsFrom lo W W'
  marks : ∀ D : Nat, W.heap[D]? = some (Obj.deferred (some [])) → W'.heap[D]? = some (Obj.deferred (some []))
theorem Turns.refl (lo : Nat) (W : World) : Turns lo W W := ⟨KeepsFrom.refl _ _, fun _ h => h⟩
theorem Turns.trans {lo : Nat} {A B C : World} (h : Turns lo A B) (k : Turns lo B C) : Turns lo A C := ⟨h.keeps.trans k.keeps, fun D hD => k.marks D (h.marks D hD)⟩
theorem Turns.of {F : Nat → Prop} {lo : Nat} {W W' : World} (hf : Fr F W W') (hF : ∀ k, F k → (∃ t cs, Holds W k t cs) ∨ (k < lo ∧ ∃ n st, NumV W k n st)) : Turns lo W W' := by
  refine ⟨⟨hf.size, fun k o hB hk ho => ?_⟩, fun D hD => ?_⟩
  · refine (hf.block k (Array.getElem?_eq_some_iff.1 hk).1 fun hFk => ?_).trans hk
    rcases hF k hFk with ⟨t, cs, h⟩ | ⟨h, _⟩
    · unfold Holds at h
      rw [h] at hk
      cases hk
      cases ho
    · omega
  · refine (hf.block D (Array.getElem?_eq_some_iff.1 hD).1 fun hFk => ?_).trans hD
    rcases hF D hFk with ⟨t, cs, h⟩ | ⟨_, n, st, D', ⟨es, clock, hb, _⟩, _⟩
    · unfold Holds at h
      rw [h] at hD
      cases hD
    · rw [hb] at hD
      cases hD
theorem Turns.below {lo : Nat} {W W' : World} (h : Below W.heap.size W W') : Turns lo W W' := Turns.of (Fr.of_below h (fun _ => False)) fun _ h => h.elim
theorem owns_holds {w : World} {base sz n : Nat} {e : TypeId} {v : Value} {xs : List Value} {g : Nat} (h : w.ownsRow base e sz v n xs) (hg : v.ownBlock = some g) : ∃ cs, Holds w g e cs := by
  rcases h.2 with ⟨h0, _⟩ | ⟨g', cap, cur, hv, _, hh, _⟩
  · rw [h0] at hg; simp [Value.ownBlock] at hg
  · rw [hv] at hg
    simp only [Value.ownBlock, Option.some.injEq] at hg
    subst hg
    exact ⟨cur.toList, by unfold Holds; simpa using hh⟩

theorem LsF.arc1 {A : Type} {F : (Nat → Prop) → World → A → List Value → Prop} {P : Nat → Prop} {w : World} {a : A} {c : List Value} (h : LsF F P w [a] c) : F P w a c := by
  obtain ⟨c', r, h1, h2, h3⟩ := h
  obtain rfl := h3
  rw [List.append_nil] at h1
  rw [h1]; exact h2
/-- Where the arcs of the round's node lie. -/
def PA (lo X : Nat) (vs va : Value) (k : Nat) : Prop := lo ≤ k ∧ k ≠ X ∧ vs.ownBlock ≠ some k ∧ va.ownBlock ≠ some k
def nodeC (va : Value) (x : PNode) : List Value := [va, .int .u64 (x.props : Int), .bool x.fin, .bool x.prog, .bool x.acc]
section
variable {base lo b13 X : Nat} {P : Nat → Prop} {B : ExB} {w0 W W' : World} {most : Nat} {st : List Nat} {out : PNet} {cnt : Nat} {x : PNode} {bs : List PArc} {vs vo va : Value} {ls : List PArc} {cl : List Value}
def arcC (b : PArc) (vr vw : Value) : List Value := [.int .i64 b.proc, .int .i64 b.to, .int .i64 b.bad, vr, vw, .int .u64 (b.turns : Int)]
theorem marks_kept {ds : List Nat} {row : Option Nat} (hg : W.grownBy W' row) (hr : ∀ r, row = some r → lo ≤ r) (h : ∀ D ∈ ds, base ≤ D ∧ W.heap[D]? = some (Obj.deferred (some []))) (hd : ∀ D ∈ ds, D < lo) : ∀ D ∈ ds, base ≤ D ∧ W'.heap[D]? = some (Obj.deferred (some [])) := fun D hD =>
  ⟨(h D hD).1, (hg.block D (Array.getElem?_eq_some_iff.1 (h D hD).2).1 fun e => by have := hr D e.symm; have := hd D hD; omega).trans (h D hD).2⟩
theorem marks_below {ds : List Nat} (hb : Below W.heap.size W W') (h : ∀ D ∈ ds, base ≤ D ∧ W.heap[D]? = some (Obj.deferred (some []))) : ∀ D ∈ ds, base ≤ D ∧ W'.heap[D]? = some (Obj.deferred (some [])) := fun D hD =>
  ⟨(h D hD).1, (hb.block D (Array.getElem?_eq_some_iff.1 (h D hD).2).1).trans (h D hD).2⟩
theorem arc_forms {P : Nat → Prop} {w : World} {b : PArc} {vr vw : Value} (h : ArcF P w b (arcC b vr vw)) : ∃ a1 n1 c1 a2 n2 c2, vr = .slice a1 n1 c1 ∧ vw = .slice a2 n2 c2 := by
  obtain ⟨vr2, vw2, h1, h2, h3⟩ := h
  simp only [arcC, List.cons.injEq, true_and, and_true] at h1
  obtain ⟨rfl, rfl⟩ := h1
  obtain ⟨a1, c1, e1, _⟩ := h2.form
  obtain ⟨a2, c2, e2, _⟩ := h3.form
  exact ⟨_, _, _, _, _, _, e1, e2⟩
end
theorem below_two {base : Nat} {w0 A C : World} (h : Below base w0 A) (k : Below base w0 C) (hs : A.heap.size ≤ C.heap.size) : Below base A C :=
  ⟨k.os.trans h.os.symm, k.tape.trans h.tape.symm, k.output.trans h.output.symm, hs, fun i hi => (k.block i hi).trans (h.block i hi).symm⟩
section
variable {base lo b13 X : Nat} {P : Nat → Prop} {B : ExB} {w0 W W' : World} {most : Nat} {st : List Nat} {out : PNet} {cnt : Nat} {x : PNode} {bs : List PArc} {vs vo va : Value}
end
theorem RowL.of_owns2 {P : Nat → Prop} {w : World} {base size n : Nat} {v : Value} {flat : List Value} {e : TypeId} (h : w.ownsRow base e size v n flat) (hl : ∀ g, v.ownBlock = some g → P g) : RowL P w size v n flat := by
  have h2 := RowL.of_owns (P := fun k => v.ownBlock = some k ∨ v.ownBlock ≠ some k) h (fun k _ => Classical.em _)
  have hlen := h.1
  rcases h.2 with ⟨h0, h1⟩ | ⟨g, cap, cur, hv, hb, hg, hnc, hcm, hcs, ht⟩
  · subst h0
    subst h1
    exact ⟨none, 0, rfl, by omega, by omega, hlen, fun _ => rfl, fun hn => by omega⟩
  · subst hv
    exact ⟨some ⟨g, 0, none⟩, cap, rfl, hnc, by unfold maxLen at hcm; omega, hlen, (fun h => by cases h), fun hn => ⟨g, 0, cur.toList, e, rfl, hl g rfl, ⟨(0, 0), by simpa using hg⟩, fun j hj => by
      have h2 := h.cellAt (g := g) (j := j) hj
      rw [Nat.zero_add, ← h2, Holds.cell (show Holds w g e cur.toList by unfold Holds; simpa using hg)]⟩⟩
section
variable {base lo b13 X : Nat} {P : Nat → Prop} {B : ExB} {w0 W W' : World} {most : Nat} {st : List Nat} {out : PNet} {cnt : Nat} {x : PNode} {bs : List PArc} {vs vo va : Value}
end
/-- The rest of exploring: what is still to come, with what has been found, is the whole. -/
structure ExI (N : PNet) (most : Nat) (w : World) (base : Nat) (ds : List Nat) (i : Nat) (st : List Nat) (out : PNet) (cnt : Nat) (W : World) : Prop where
  met : Met N.length st
  at_ : i = out.length ∧ i ≤ st.length
  rest : ∃ fu, N.length < fu + i ∧ exF N most 20001 0 [0] = (exF N most fu i st).map fun p => (p.1, out ++ p.2)
  cnt_ : cnt = ((st.take i).map (arcsAt N)).sum
  marks : ds.Nodup ∧ ∀ D ∈ ds, base ≤ D ∧ W.heap[D]? = some (Obj.deferred (some []))
section
variable {N : PNet} {most : Nat} {w W : World} {base : Nat} {ds : List Nat} {i k : Nat} {st : List Nat} {out : PNet} {cnt : Nat} {x : PNode}
theorem ExI.fuel (h : ExI N most w base ds i st out cnt W) (hi : i < st.length) : ∃ fu, N.length < fu + 1 + i ∧ exF N most 20001 0 [0] = (exF N most (fu + 1) i st).map fun p => (p.1, out ++ p.2) := by
  obtain ⟨fu, h1, h2⟩ := h.rest
  have h3 := nodup_bound _ _ h.met.nodup h.met.lt
  cases fu with
  | zero => omega
  | succ fu => exact ⟨fu, h1, h2⟩
theorem ExI.none (h : ExI N most w base ds i st out cnt W) (hi : i < st.length) (hk : st[i] = k) (hx : N[k]? = some x) (hs : stepAs most st x.arcs = none) : exF N most 20001 0 [0] = none := by
  obtain ⟨fu, h1, h2⟩ := h.fuel hi
  rw [h2, exF, List.getElem?_eq_getElem hi, hk]
  simp only [hx, hs]
  rfl
theorem ExI.last (h : ExI N most w base ds i st out cnt W) (hi : ¬ i < st.length) : exF N most 20001 0 [0] = some (st, out) := by
  obtain ⟨fu, h1, h2⟩ := h.rest
  have h3 := nodup_bound _ _ h.met.nodup h.met.lt
  have h4 := h.at_.2
  cases fu with
  | zero => omega
  | succ fu =>
    rw [h2, exF, List.getElem?_eq_none (by omega)]
    simp
theorem ExI.next {ds' : List Nat} {W' : World} {st1 : List Nat} {bs : List PArc} (h : ExI N most w base ds i st out cnt W) (hi : i < st.length) (hk : st[i] = k) (hx : N[k]? = some x) (hs : stepAs most st x.arcs = some (st1, bs)) (hm : Met N.length st1) (hp : st <+: st1)
    (hmk : ds'.Nodup ∧ ∀ D ∈ ds', base ≤ D ∧ W'.heap[D]? = some (Obj.deferred (some []))) : ExI N most w base ds' (i + 1) st1 (out ++ [{ x with arcs := bs }]) (cnt + x.arcs.length) W' := by
  obtain ⟨fu, h1, h2⟩ := h.fuel hi
  have hl := hp.length_le
  have ht : st1.take (i + 1) = st.take i ++ [k] := by
    obtain ⟨r, rfl⟩ := hp
    rw [List.take_append_of_le_length (by omega), List.take_add_one, List.getElem?_eq_getElem hi, hk]
    rfl
  have ha : arcsAt N k = x.arcs.length := by
    unfold arcsAt
    rw [List.getD_eq_getElem?_getD, hx]
    rfl
  refine ⟨hm, ⟨by rw [List.length_append, ← h.at_.1]; rfl, by omega⟩, ⟨fu, by omega, ?_⟩, ?_, hmk⟩
  · rw [h2, exF, List.getElem?_eq_getElem hi, hk]
    simp only [hx, hs]
    cases exF N most fu (i + 1) st1 with
    | none => rfl
    | some p => simp
  · rw [ht, List.map_append, List.sum_append, ← h.cnt_, List.map_cons, ha]
    simp
theorem ExI.count (h : ExI N most w base ds i st out cnt W) (hi : i < st.length) (hk : st[i] = k) (hx : N[k]? = some x) (hN : chk N = true) : cnt + x.arcs.length ≤ 262144 := by
  have h3 := sum_bound N N.length (st.take (i + 1)) (Nat.le_refl _) (h.met.nodup.sublist (List.take_sublist _ _)) (fun y hy => h.met.lt y (List.mem_of_mem_take hy))
  have ha : arcsAt N k = x.arcs.length := by
    unfold arcsAt
    rw [List.getD_eq_getElem?_getD, hx]
    rfl
  rw [List.take_length, List.take_add_one, List.getElem?_eq_getElem hi, hk] at h3
  simp only [Option.toList, List.map_append, List.sum_append, List.map_cons, List.map_nil, List.sum_cons, List.sum_nil, ha, ← h.cnt_] at h3
  have hN2 := hN
  unfold chk at hN2
  simp only [Bool.and_eq_true, decide_eq_true_eq] at hN2
  omega
end
/-- What Explore hands back. -/
def ExPost (r : Option (List Nat × PNet)) (w : World) (e : Ending) (w' : World) : Prop := Below w.heap.size w w' ∧ match r with
  | some (st, g) => ∃ vn vs, e = .returned (.tuple #[.agg #[vn], vs, .int .i64 0]) ∧ NetV (From w.heap.size) w' vn g ∧ RowL (From w.heap.size) w' 1 vs st.length (st.map fun m => .string (keyS m))
  | none => e = .returned (.tuple #[.agg #[.slice none 0 0], .slice none 0 0, .int .i64 131])
theorem results_cells3 {P : Program} {fn : Func} {t u s : Tmp} {ty1 ty2 ty3 : TypeId} (h : fn.results = #[.cell t ty1, .cell u ty2, .cell s ty3]) {tmps : Array Value} {a1 a2 a3 : Addr} {v1 v2 v3 : Value} {w : World} (h1 : tmps.getD t undef = .pointer (some a1)) (h2 : tmps.getD u undef = .pointer (some a2)) (h3 : tmps.getD s undef = .pointer (some a3)) (e1 : (loadVar ty1 a1).run P w = .ok v1 w) (e2 : (loadVar ty2 a2).run P w = .ok v2 w) (e3 : (loadVar ty3 a3).run P w = .ok v3 w) :
    (results fn tmps).run P w = .ok (.tuple #[v1, v2, v3]) w := by
  rw [Array.getD_eq_getD_getElem?] at h1 h2 h3
  simp [results, h, h1, h2, h3, asAddr, Sem.run_bind, e1, e2, e3]
section
variable {F : Nat → Prop} {w w' : World}
/-- Blocks that hold no cells are turned: rows stand. -/
theorem Holds.keptF {g : Nat} {t : TypeId} {cs : List Value} (h : Holds w g t cs) (hf : Fr F w w') (hF : ∀ k, F k → ∃ o : Obj, w.heap[k]? = some o ∧ o.isCells = false) : Holds w' g t cs :=
  hf.holds h fun hg => by
    obtain ⟨o, ho, hc⟩ := hF g hg
    unfold Holds at h
    rw [h] at ho
    cases ho
    cases hc
theorem HoldsR.keptF {g : Nat} {t : TypeId} {cs : List Value} (h : HoldsR w g t cs) (hf : Fr F w w') (hF : ∀ k, F k → ∃ o : Obj, w.heap[k]? = some o ∧ o.isCells = false) : HoldsR w' g t cs :=
  h.of_eq (hf.block g h.lt fun hg => by
    obtain ⟨o, ho, hc⟩ := hF g hg
    obtain ⟨fr, h⟩ := h
    rw [h] at ho
    cases ho
    cases hc)
theorem RowL.keptF {P : Nat → Prop} {size n : Nat} {v : Value} {f : List Value} (h : RowL P w size v n f) (hf : Fr F w w') (hF : ∀ k, F k → ∃ o : Obj, w.heap[k]? = some o ∧ o.isCells = false) : RowL P w' size v n f := by
  obtain ⟨a, cap, h1, h2, h3, h4, h5, h6⟩ := h
  refine ⟨a, cap, h1, h2, h3, h4, h5, fun hn => ?_⟩
  obtain ⟨g, o, cs, t, k1, k2, k3, k4⟩ := h6 hn
  exact ⟨g, o, cs, t, k1, k2, k3.keptF hf hF, k4⟩
theorem NodeF.keptF {P : Nat → Prop} (hf : Fr F w w') (hF : ∀ k, F k → ∃ o : Obj, w.heap[k]? = some o ∧ o.isCells = false) {x : PNode} {c : List Value} (h : NodeF P w x c) : NodeF P w' x c := by
  obtain ⟨va, h1, f, h2, h3⟩ := h
  exact ⟨va, h1, f, h2.keptF hf hF, LsF.up (fun _ _ ⟨vr, vw, q1, q2, q3⟩ => ⟨vr, vw, q1, q2.keptF hf hF, q3.keptF hf hF⟩) _ h3⟩
theorem NetV.keptF {P : Nat → Prop} (hf : Fr F w w') (hF : ∀ k, F k → ∃ o : Obj, w.heap[k]? = some o ∧ o.isCells = false) {v : Value} {g : PNet} (h : NetV P w v g) : NetV P w' v g := by
  obtain ⟨f, h1, h2⟩ := h
  exact ⟨f, h1.keptF hf hF, LsF.up (fun _ _ => NodeF.keptF hf hF) _ h2⟩
end
end Go.Proofs.Ytcopoaaofjeklaa
end
section
/- Exploring any system: what lies in memory (printed by mkg.py out of XExv and XMov). -/
namespace Go.Proofs.Ytcopoaaofjeklaa.G
open Go.RowKit Go.Maps
set_option linter.unusedVariables false
set_option linter.unusedSimpArgs false

/-- What a stretch of the body leaves as it was: what is no cells from lo on, the marks, the safe blocks. -/
structure Turns (lo : Nat) (W W' : World) : Prop where
  keeps : KeepsFrom lo W W'
  marks : ∀ D : Nat, W.heap[D]? = some (Obj.deferred (some [])) → W'.heap[D]? = some (Obj.deferred (some []))
  safe : ∀ k t cs, Safe lo k t → Holds W k t cs → Holds W' k t cs
theorem Turns.refl (lo : Nat) (W : World) : Turns lo W W := ⟨KeepsFrom.refl _ _, fun _ h => h, fun _ _ _ _ h => h⟩
theorem Turns.trans {lo : Nat} {A B C : World} (h : Turns lo A B) (k : Turns lo B C) : Turns lo A C := ⟨h.keeps.trans k.keeps, fun D hD => k.marks D (h.marks D hD), fun q t cs hs hh => k.safe q t cs hs (h.safe q t cs hs hh)⟩
theorem Turns.of {F : Nat → Prop} {lo : Nat} {W W' : World} (hf : Fr F W W') (hF : ∀ k, F k → (∃ t cs, Holds W k t cs ∧ ¬ Safe lo k t) ∨ (k < lo ∧ ∃ n st, NumV 0 W k n st)) : Turns lo W W' := by
  refine ⟨⟨hf.size, fun k o hB hk ho => ?_⟩, fun D hD => ?_, fun k t cs hs hh => ?_⟩
  · refine (hf.block k (Array.getElem?_eq_some_iff.1 hk).1 fun hFk => ?_).trans hk
    rcases hF k hFk with ⟨t, cs, h, _⟩ | ⟨h, _⟩
    · unfold Holds at h
      rw [h] at hk
      cases hk
      cases ho
    · omega
  · refine (hf.block D (Array.getElem?_eq_some_iff.1 hD).1 fun hFk => ?_).trans hD
    rcases hF D hFk with ⟨t, cs, h, _⟩ | ⟨_, n, st, D', ⟨es, clock, hb, _⟩, _⟩
    · unfold Holds at h
      rw [h] at hD
      cases hD
    · rw [hb] at hD
      cases hD
  · refine hf.holds hh fun hFk => ?_
    rcases hF k hFk with ⟨t', cs', h, hn⟩ | ⟨_, n, st, h⟩
    · have hh2 := hh
      unfold Holds at h hh2
      rw [h] at hh2
      injection hh2 with hh2
      injection hh2 with _ hh2 _
      rw [hh2] at hn
      exact hn hs
    · exact h.ne hh rfl
theorem Turns.below {lo : Nat} {W W' : World} (h : Below W.heap.size W W') : Turns lo W W' := Turns.of (Fr.of_below h (fun _ => False)) fun _ h => h.elim
section
variable {base lo b13 X : Nat} {P : Nat → Prop} {B : ExB} {w0 W W' : World} {most : Nat} {st : List ByteArray} {out : PNet} {cnt : Nat} {x : PNode} {ms : List PMove} {bs : List PArc} {vs vo va : Value} {ls : List PArc} {cl : List Value}
end
section
variable {base lo b13 X : Nat} {P : Nat → Prop} {B : ExB} {w0 W W' : World} {most : Nat} {st : List ByteArray} {out : PNet} {cnt : Nat} {x : PNode} {ms : List PMove} {bs : List PArc} {vs vo va : Value}
end
section
variable {base lo b13 X : Nat} {P : Nat → Prop} {B : ExB} {w0 W W' : World} {most : Nat} {st : List ByteArray} {out : PNet} {cnt : Nat} {x : PNode} {ms : List PMove} {bs : List PArc} {vs vo va : Value}
end

/-- The rest of exploring: what is still to come, with what has been found, is the whole. -/
structure ExI (S : Sys) (most : Nat) (base : Nat) (ds : List Nat) (i : Nat) (st : List ByteArray) (out : PNet) (cnt : Nat) (W : World) : Prop where
  met : Met most st
  at_ : i = out.length ∧ i ≤ st.length
  rest : ∃ fu, most < fu + i ∧ exF S most 20001 0 0 [S.beg] = (exF S most fu i cnt st).map fun p => (p.1, out ++ p.2)
  cnt_ : cnt ≤ 262144
  marks : ds.Nodup ∧ ∀ D ∈ ds, base ≤ D ∧ W.heap[D]? = some (Obj.deferred (some []))
section
variable {S : Sys} {most : Nat} {W : World} {base : Nat} {ds : List Nat} {i : Nat} {k : ByteArray} {st : List ByteArray} {out : PNet} {cnt : Nat}
theorem ExI.fuel (h : ExI S most base ds i st out cnt W) (hi : i < st.length) : ∃ fu, most < fu + 1 + i ∧ exF S most 20001 0 0 [S.beg] = (exF S most (fu + 1) i cnt st).map fun p => (p.1, out ++ p.2) := by
  obtain ⟨fu, h1, h2⟩ := h.rest
  have h3 := h.met.len
  cases fu with
  | zero => omega
  | succ fu => exact ⟨fu, h1, h2⟩
theorem ExI.none (h : ExI S most base ds i st out cnt W) (hi : i < st.length) (hk : st[i] = k) (hs : stepAs most cnt st (S.next k) = none) : exF S most 20001 0 0 [S.beg] = none := by
  obtain ⟨fu, h1, h2⟩ := h.fuel hi
  rw [h2, exF, List.getElem?_eq_getElem hi, hk]
  simp only [hs]
  rfl
theorem ExI.last (h : ExI S most base ds i st out cnt W) (hi : ¬ i < st.length) : exF S most 20001 0 0 [S.beg] = some (st, out) := by
  obtain ⟨fu, h1, h2⟩ := h.rest
  have h3 := h.met.len
  have h4 := h.at_.2
  cases fu with
  | zero => omega
  | succ fu =>
    rw [h2, exF, List.getElem?_eq_none (by omega)]
    simp
theorem ExI.next {ds' : List Nat} {W' : World} {st1 : List ByteArray} {bs : List PArc} (h : ExI S most base ds i st out cnt W) (hi : i < st.length) (hk : st[i] = k) (hs : stepAs most cnt st (S.next k) = some (st1, bs)) (hm : Met most st1) (hp : st <+: st1) (hc : cnt + (S.next k).length ≤ 262144)
    (hmk : ds'.Nodup ∧ ∀ D ∈ ds', base ≤ D ∧ W'.heap[D]? = some (Obj.deferred (some []))) : ExI S most base ds' (i + 1) st1 (out ++ [{ S.look k with arcs := bs }]) (cnt + (S.next k).length) W' := by
  obtain ⟨fu, h1, h2⟩ := h.fuel hi
  have hl := hp.length_le
  refine ⟨hm, ⟨by rw [List.length_append, ← h.at_.1]; rfl, by omega⟩, ⟨fu, by omega, ?_⟩, hc, hmk⟩
  rw [h2, exF, List.getElem?_eq_getElem hi, hk]
  simp only [hs]
  cases exF S most fu (i + 1) (cnt + (S.next k).length) st1 with
  | none => rfl
  | some p => simp
end
/-- What Explore hands back. -/
def ExPost (r : Option (List ByteArray × PNet)) (w : World) (e : Ending) (w' : World) : Prop := Below w.heap.size w w' ∧ match r with
  | some (st, g) => ∃ vn vs, e = .returned (.tuple #[.agg #[vn], vs, .int .i64 0]) ∧ NetV (From w.heap.size) w' vn g ∧ RowL (From w.heap.size) w' 1 vs st.length (st.map fun m => .string m)
  | none => e = .returned (.tuple #[.agg #[.slice none 0 0], .slice none 0 0, .int .i64 131])
end Go.Proofs.Ytcopoaaofjeklaa.G
end
section
/- Turned arcs, plain: what is reached is the same. -/
namespace Go.Proofs.Ytcopoaaofjeklaa
open Go.RowKit
set_option linter.unusedVariables false
set_option linter.unusedSimpArgs false

def revX (x : PNode) : PNode := { x with arcs := x.arcs.reverse }
def lastN : PNode := ⟨[], 77, false, false, false⟩
def turnN (N : PNet) : PNet := N.map revX ++ [lastN]
theorem stepA_mem {most : Nat} {st st1 : List Nat} {a b : PArc} (h : stepA most st a = some (st1, b)) : st <+: st1 ∧ (a.bad = 0 → a.to.toNat ∈ st1) ∧ ∀ s ∈ st1, s ∈ st ∨ (a.bad = 0 ∧ s = a.to.toNat) := by
  unfold stepA at h
  split at h
  · rename_i hb
    split at h
    · rename_i hin
      injection h with h; injection h with h _; subst h
      exact ⟨List.prefix_refl _, fun _ => hin, fun s hs => .inl hs⟩
    · split at h
      · cases h
      · injection h with h; injection h with h _; subst h
        exact ⟨List.prefix_append _ _, fun _ => by simp, fun s hs => (List.mem_append.1 hs).imp id fun h => ⟨hb, by simpa using h⟩⟩
  · rename_i hb
    injection h with h; injection h with h _; subst h
    exact ⟨List.prefix_refl _, fun h0 => absurd h0 hb, fun s hs => .inl hs⟩
theorem stepAs_mem {most : Nat} : ∀ {l : List PArc} {st st1 : List Nat} {bs : List PArc}, stepAs most st l = some (st1, bs) → st <+: st1 ∧ (∀ a ∈ l, a.bad = 0 → a.to.toNat ∈ st1) ∧ (∀ s ∈ st1, s ∈ st ∨ ∃ a ∈ l, a.bad = 0 ∧ s = a.to.toNat) ∧ bs.length = l.length
  | [], st, st1, bs, h => by
    rw [stepAs] at h; injection h with h; injection h with h h'; subst h; subst h'
    exact ⟨List.prefix_refl _, (fun a ha => by cases ha), fun s hs => .inl hs, rfl⟩
  | a :: l, st, st1, bs, h => by
    rw [stepAs] at h
    split at h
    · cases h
    · rename_i st' b e1
      split at h
      · cases h
      · rename_i st2 bs2 e2
        injection h with h; injection h with h h'; subst h; subst h'
        obtain ⟨p1, p2, p3⟩ := stepA_mem e1
        obtain ⟨q1, q2, q3, q4⟩ := stepAs_mem e2
        refine ⟨p1.trans q1, fun c hc hb => ?_, fun s hs => ?_, by simp [q4]⟩
        · rcases List.mem_cons.1 hc with rfl | hc
          · exact q1.subset (p2 hb)
          · exact q2 c hc hb
        · rcases q3 s hs with h1 | ⟨c, hc, hb, he⟩
          · rcases p3 s h1 with h2 | ⟨hb, he⟩
            · exact .inl h2
            · exact .inr ⟨a, by simp, hb, he⟩
          · exact .inr ⟨c, by simp [hc], hb, he⟩
/-- What is reached from what has been met: closed; nothing beyond; and what is told of each. -/
theorem exF_reach {N : PNet} {most : Nat} : ∀ {fu i : Nat} {st st1 : List Nat} {out : PNet}, exF N most fu i st = some (st1, out) → i ≤ st.length →
    st <+: st1 ∧ (∀ (j : Nat) (hj : j < st1.length), i ≤ j → ∃ x, N[st1[j]]? = some x ∧ (∀ a ∈ x.arcs, a.bad = 0 → a.to.toNat ∈ st1) ∧ ∃ y, out[j - i]? = some y ∧ y.props = x.props ∧ y.arcs.length = x.arcs.length) ∧
    ∀ Q : Nat → Prop, (∀ s ∈ st, Q s) → (∀ s x, Q s → N[s]? = some x → ∀ a ∈ x.arcs, a.bad = 0 → Q a.to.toNat) → ∀ s ∈ st1, Q s
  | 0, i, st, st1, out, h, hi => by rw [exF] at h; cases h
  | fu + 1, i, st, st1, out, h, hi => by
    rw [exF] at h
    split at h
    · rename_i h0
      injection h with h; injection h with h h'; subst h; subst h'
      have := List.getElem?_eq_none_iff.1 h0
      exact ⟨List.prefix_refl _, fun j hj hij => by omega, fun Q hQ _ => hQ⟩
    · rename_i s h0
      have hil := (List.getElem?_eq_some_iff.1 h0).1
      have hs0 := (List.getElem?_eq_some_iff.1 h0).2
      split at h
      · cases h
      · rename_i x hx
        split at h
        · cases h
        · rename_i st' bs h1
          split at h
          · cases h
          · rename_i st2 out2 h2
            injection h with h; injection h with h h'; subst h; subst h'
            obtain ⟨p1, p2, p3, p4⟩ := stepAs_mem h1
            have hl := p1.length_le
            obtain ⟨q1, q2, q3⟩ := exF_reach h2 (by omega)
            refine ⟨p1.trans q1, fun j hj hij => ?_, fun Q hQ hc => ?_⟩
            · by_cases e : j = i
              · subst e
                have hp := p1.trans q1
                have he : st2[j] = s := by rw [← hs0]; exact (hp.getElem hil).symm
                refine ⟨x, by rw [he]; exact hx, fun a ha hb => q1.subset (p2 a ha hb), { x with arcs := bs }, by rw [Nat.sub_self]; rfl, rfl, p4⟩
              · obtain ⟨y, h3, h4, z, h5, h6⟩ := q2 j hj (by omega)
                refine ⟨y, h3, h4, z, ?_, h6⟩
                rw [show j - i = (j - (i + 1)) + 1 by omega, List.getElem?_cons_succ]
                exact h5
            · refine q3 Q (fun t ht => ?_) hc
              rcases p3 t ht with h3 | ⟨a, ha, hb, rfl⟩
              · exact hQ t h3
              · exact hc s x (hQ s (by rw [← hs0]; exact List.getElem_mem _)) hx a ha hb
theorem turn_len (N : PNet) : (turnN N).length = N.length + 1 := by simp [turnN]
theorem turn_at {N : PNet} {s : Nat} (h : s < N.length) : (turnN N)[s]? = some (revX N[s]) := by
  unfold turnN
  rw [List.getElem?_append_left (by simpa using h), List.getElem?_map, List.getElem?_eq_getElem h]
  rfl
theorem turn_back {N : PNet} {s : Nat} {x : PNode} (h : (turnN N)[s]? = some x) (hs : s < N.length) : ∃ y, N[s]? = some y ∧ x = revX y := by
  rw [turn_at hs] at h
  injection h with h
  exact ⟨_, List.getElem?_eq_getElem hs, h.symm⟩
theorem total_app : ∀ (a b : PNet), total (a ++ b) = total a + total b
  | [], b => by simp [total]
  | x :: a, b => by
    have := total_app a b
    simp only [total, List.cons_append, List.map_cons, List.sum_cons] at this ⊢
    omega
theorem total_rev : ∀ (a : PNet), total (a.map revX) = total a
  | [] => rfl
  | x :: a => by
    have := total_rev a
    simp only [total, List.map_cons, List.sum_cons] at this ⊢
    rw [this]
    simp [revX]
theorem turn_chk {N : PNet} (hN : chk N = true) (hl : N.length < 20000) : chk (turnN N) = true := by
  unfold chk at hN ⊢
  simp only [Bool.and_eq_true, decide_eq_true_eq] at hN ⊢
  obtain ⟨⟨⟨n1, n2⟩, n3⟩, n4⟩ := hN
  rw [turn_len]
  refine ⟨⟨⟨by omega, by omega⟩, List.all_eq_true.2 fun x hx => List.all_eq_true.2 fun a ha => ?_⟩, ?_⟩
  · unfold turnN at hx
    rcases List.mem_append.1 hx with hx | hx
    · obtain ⟨y, hy, rfl⟩ := List.mem_map.1 hx
      have h1 := List.all_eq_true.1 (List.all_eq_true.1 n3 y hy) a (by simpa [revX] using ha)
      exact chkArc_mono h1 (by omega)
    · rw [List.mem_singleton] at hx
      subst hx
      cases ha
  · unfold turnN
    rw [total_app, total_rev]
    simp only [total, List.map_cons, List.map_nil, List.sum_cons, List.sum_nil, lastN, List.length_nil] at n4 ⊢
    omega
theorem ex_ok {N : PNet} (hN : chk N = true) : ∃ st g, exF N 20000 20001 0 [0] = some (st, g) ∧ Met N.length st ∧ g.length = st.length := by
  obtain ⟨st, g, h1, h2, h3, h4, h5, h6⟩ := again hN
  exact ⟨st, g, h1, h4, h2.symm⟩
theorem nodup_sub : ∀ (a b : List Nat), a.Nodup → (∀ x ∈ a, x ∈ b) → a.length ≤ b.length
  | [], b, _, _ => Nat.zero_le _
  | x :: a, b, hd, h => by
    obtain ⟨h1, h2⟩ := List.nodup_cons.1 hd
    have hx := h x (by simp)
    have h3 := nodup_sub a (b.erase x) h2 fun y hy => (List.mem_erase_of_ne (by rintro rfl; exact h1 hy)).2 (h y (by simp [hy]))
    rw [List.length_erase_of_mem hx] at h3
    have := List.length_pos_of_mem hx
    simp only [List.length_cons]
    omega
/-- The law of turned arcs. -/
theorem turned {N : PNet} (hN : chk N = true) (hl : N.length < 20000) : ∃ st g st' g', exF N 20000 20001 0 [0] = some (st, g) ∧ exF (turnN N) 20000 20001 0 [0] = some (st', g') ∧ 0 < st.length ∧ st'.length = st.length ∧ g.length = st.length ∧ g'.length = st.length ∧ (∀ s ∈ st, s ≤ 20000) ∧ (∀ s ∈ st', s ≤ 20000) ∧
    ∀ (j : Nat) (hj : j < st.length), ∃ m, m < st.length ∧ st'[m]? = some st[j] ∧ ∃ x y, g[j]? = some x ∧ g'[m]? = some y ∧ x.arcs.length = y.arcs.length ∧ x.props = y.props := by
  obtain ⟨st, g, h1, hm, hg⟩ := ex_ok hN
  obtain ⟨st', g', h1', hm', hg'⟩ := ex_ok (turn_chk hN hl)
  rw [turn_len] at hm'
  obtain ⟨a1, a2, a3⟩ := exF_reach h1 (by simp)
  obtain ⟨b1, b2, b3⟩ := exF_reach h1' (by simp)
  have h0 : ∀ s ∈ st, s ∈ st' := a3 (· ∈ st') (fun s hs => b1.subset hs) fun s x hs hx a ha hb => by
    obtain ⟨j, hj, rfl⟩ := List.getElem_of_mem hs
    obtain ⟨y, h3, h4, _⟩ := b2 j hj (by omega)
    have hlt := (List.getElem?_eq_some_iff.1 hx).1
    rw [turn_at hlt] at h3
    injection h3 with h3
    subst h3
    have hxe := (List.getElem?_eq_some_iff.1 hx).2
    exact h4 a (by simp only [revX, List.mem_reverse]; rw [hxe]; exact ha) hb
  have h0' : ∀ s ∈ st', s ∈ st := b3 (· ∈ st) (fun s hs => a1.subset hs) fun s x hs hx a ha hb => by
    obtain ⟨y, hy, rfl⟩ := turn_back hx (hm.lt s hs)
    obtain ⟨j, hj, rfl⟩ := List.getElem_of_mem hs
    obtain ⟨z, h3, h4, _⟩ := a2 j hj (by omega)
    rw [hy] at h3
    injection h3 with h3
    subst h3
    exact h4 a (by simpa [revX] using ha) hb
  have e1 : st.length ≤ st'.length := nodup_sub _ _ hm.nodup h0
  have e2 : st'.length ≤ st.length := nodup_sub _ _ hm'.nodup h0'
  have hN2 := hN
  unfold chk at hN2
  simp only [Bool.and_eq_true, decide_eq_true_eq] at hN2
  refine ⟨st, g, st', g', h1, h1', hm.pos, by omega, hg, by omega, fun s hs => by have := hm.lt s hs; omega, fun s hs => by have := hm'.lt s hs; omega, fun j hj => ?_⟩
  obtain ⟨m, hmm, he⟩ := List.getElem_of_mem (h0 _ (List.getElem_mem hj))
  obtain ⟨x, c1, _, y, c2, c3, c4⟩ := a2 j hj (by omega)
  obtain ⟨x', d1, _, y', d2, d3, d4⟩ := b2 m hmm (by omega)
  rw [he] at d1
  obtain ⟨z, hz, rfl⟩ := turn_back d1 (hm.lt _ (List.getElem_mem hj))
  rw [c1] at hz
  injection hz with hz
  subst hz
  rw [Nat.sub_zero] at c2 d2
  exact ⟨m, by omega, by rw [List.getElem?_eq_getElem hmm, he], y, y', c2, d2, by rw [c4, d4]; simp [revX], by rw [c3, d3]; rfl⟩
end Go.Proofs.Ytcopoaaofjeklaa
end
section
/- The walk of net.Explore at a graph's system. -/
namespace Go.Proofs.Ytcopoaaofjeklaa
open Go.RowKit Go.Maps
set_option linter.unusedVariables false
set_option linter.unusedSimpArgs false
attribute [local go_sem] Oper.semAt_some run_makeMap

theorem wpIn_at {F : Fence} {n : Nat} {P : Program} {c : Code} {Q : Exit → Act → World → Prop} {t : Array Value} {d : List Deferred} {w : World} (h : ∀ T, T = t → c.wpIn F n P Q { tmps := T, defers := d } w) : c.wpIn F n P Q { tmps := t, defers := d } w := h t rfl
theorem wpIn_cut {F : Fence} {n : Nat} {P : Program} {c : Code} {K : Act → World → Prop} {R : Exit → Act → World → Prop} {a : Act} {w : World} (Mid : Act → World → Prop) (h : c.wpIn F n P (Exit.then Mid R) a w) (hk : ∀ a' w', Mid a' w' → K a' w') : c.wpIn F n P (Exit.then K R) a w :=
  Code.wpIn_mono (fun e a w q => by cases e <;> first | exact hk _ _ q | exact q) h
theorem wpIn_seq2 {F : Fence} {n : Nat} {P : Program} {c x y : Code} {Q : Exit → Act → World → Prop} {a : Act} {w : World} (Mid : Act → World → Prop) (h : c.wpIn F n P (Exit.then (fun a w => x.wpIn F n P (Exit.then Mid Q) a w) Q) a w) (hk : ∀ a' w', Mid a' w' → y.wpIn F n P Q a' w') : (Code.seq c (Code.seq x y)).wpIn F n P Q a w :=
  wpIn_seq (Code.wpIn_mono (fun e a w q => by
    cases e with
    | normal => exact wpIn_seq (Code.wpIn_mono (fun e a w q => by cases e <;> first | exact hk _ _ q | exact q) q)
    | _ => exact q) h)
theorem act_of {T : List Value} {F : (Nat → Value) → List Value} {d : List Deferred} (h : T = F (fun j => T.getD j undef)) : ∃ u, ({ tmps := T.toArray, defers := d } : Act) = { tmps := (F u).toArray, defers := d } := ⟨_, by rw [← h]⟩
theorem info_str : (Try.prog.info? 9).map (fun i => (i.zero.map fun z => z.cells.size, i.size, i.bytes)) = some (some 1, 1, 16) := by kernel_rfl
theorem sz_Errno : (Try.prog.info? 34).map (·.size) = some 1 := by kernel_rfl
theorem sz_Int : (Try.prog.info? 3).map (·.size) = some 1 := by kernel_rfl
/-- The walk stands still here. -/
structure Stop (p : Prop) : Prop where
  out : p
section
variable {F : Fence} {n : Nat} {P : Program} {ops : Array Oper} {Q : Exit → Act → World → Prop} {a : Act} {w : World} {rest : List Oper} {o : Oper}
theorem stop_store (ty : TypeId) (x y : Operand) (ho : o.op = .store ty x y) (h : Stop (wpListIn F n P ops Q (o :: rest) a w)) : wpListIn F n P ops Q (o :: rest) a w := h.out
theorem stop_call (c : Call) (ho : o.op = .call c) (h : Stop (wpListIn F n P ops Q (o :: rest) a w)) : wpListIn F n P ops Q (o :: rest) a w := h.out
end
theorem load_errno {w : World} {b : Nat} {v : Value} (h : Holds w b 34 [v]) : (loadVar 34 ⟨b, 0, none⟩).run Try.prog w = .ok v w := by
  have d := h.cell 0
  simp only [List.getElem?_cons_zero] at d
  simp [go_sem, d]
def sightC (x : PNode) : List Value := [.int .u64 (x.props : Int), .bool x.fin, .bool x.prog, .bool x.acc]
theorem sight_agg (x : PNode) : sight x = .agg (sightC x).toArray := rfl
end Go.Proofs.Ytcopoaaofjeklaa
end
section
/- The walk of the statements' two: a graph laid anew. -/
namespace Go.Proofs.Ytcopoaaofjeklaa
open Go.RowKit
set_option linter.unusedVariables false
set_option linter.unusedSimpArgs false

def twoN : PNet := [⟨[⟨1, 1, 0, [], [], 0⟩, ⟨0, 0, 1, [], [], 0⟩], 5, false, false, false⟩, ⟨[], 0, true, false, false⟩]
def TwoPost (w : World) (e : Ending) (w' : World) : Prop := Below w.heap.size w w' ∧ ∃ v, e = .returned (.agg #[v]) ∧ NetV (From w.heap.size) w' v twoN
end Go.Proofs.Ytcopoaaofjeklaa
end
section
/- The walks of the reference's Same and Nets at things that are the same (printed by mknets.py). -/
namespace Go.Proofs.Ytcopoaaofjeklaa
open Go.RowKit
set_option linter.unusedVariables false
set_option linter.unusedSimpArgs false

def Yes (w : World) (e : Ending) (w' : World) : Prop := e = .returned (.bool true) ∧ Below w.heap.size w w'
set_option maxHeartbeats 1000000 in
theorem sameFn {P P' : Nat → Prop} {w : World} {v v' : Value} {l : List Int} (h : RowL P w 1 v l.length (l.map intV)) (h' : RowL P' w 1 v' l.length (l.map intV)) (hn : l.length ≤ 2000000) : Calls Try.prog 22 #[v, v'] w (Yes w) := by
  obtain ⟨a, c, rfl, hc1, _, _⟩ := h.form
  obtain ⟨a', c', rfl, hc1', _, _⟩ := h'.form
  obtain ⟨N, hN⟩ : ∃ N, l.length = N := ⟨_, rfl⟩
  have H := Lib.hid h
  have H' := Lib.hid h'
  have HN := Lib.hid hN
  rw [hN] at hc1 hc1' hn
  rw [hN]
  clear h h' hN
  go_enter Try.func22, Try.ntmps22
  go_wp2
  go_loopw [5] (fun x wr => ∃ i : Nat, x = .int .i64 (i : Int) ∧ i ≤ N ∧ Hid (Below w.heap.size w wr)) (fun x _ => N - (intOf x).toNat)
  case atStart => exact ⟨0, rfl, Nat.zero_le _, Below.refl _ _⟩
  case round =>
    obtain ⟨i, hx, hi, HB⟩ := hrel
    subst hx
    by_cases hin : i < N
    · have hil : i < l.length := by rw [HN.out]; exact hin
      have hi2i : (i : Int) < (N : Int) := by omega
      have hi0i : (0 : Int) ≤ (i : Int) := by omega
      have hwii : IntKind.i64.wrap (i : Int) = (i : Int) := by rw [IntKind.wrap_i64]; omega
      have hwji : IntKind.i64.wrap ((i : Int) + 1) = (i : Int) + 1 := by rw [IntKind.wrap_i64]; omega
      obtain ⟨g, ob, cb, x, he1, hx1, hc1⟩ := (H.out.up (Keep.below HB.out)).at1 hil
      obtain ⟨g', ob', cb', x', he2, hx2, hc2⟩ := (H'.out.up (Keep.below HB.out)).at1 hil
      rw [hx1] at hx2
      injection hx2 with hx2
      subst hx2
      injection he1 with he1 _ he1'
      subst he1 he1'
      injection he2 with he2 _ he2'
      subst he2 he2'
      obtain ⟨q, hq⟩ : ∃ q : Int, x = .int .i64 q := by
        rw [List.getElem?_map, List.getElem?_eq_getElem hil] at hx1
        injection hx1 with hx1
        exact ⟨_, hx1.symm⟩
      subst hq
      clear hx1
      go_wp2
      go_quiet (fail)
      have HB2 : Hid (Below w.heap.size w (wr.drewN nq)) := ((Fr.of_below HB.out (fun _ => False)).drewN nq).to_below (Nat.le_refl _) fun _ _ h => h
      clear hc1 hc2 HB
      go_wp2
      refine ⟨⟨i + 1, by simp, by omega, HB2⟩, ?_⟩
      simp [intOf]
      omega
    · obtain rfl : i = N := by omega
      have HF : Hid (Yes w (.returned (.bool true)) wr) := ⟨rfl, HB.out⟩
      go_wp2
      go_ret
      exact HF.out
end Go.Proofs.Ytcopoaaofjeklaa
end
section
/- The walk of net.CheckThreads at no processes. -/
namespace Go.Proofs.Ytcopoaaofjeklaa
open Go.RowKit
set_option linter.unusedVariables false
set_option linter.unusedSimpArgs false

set_option maxHeartbeats 1000000 in
set_option maxRecDepth 100000 in
theorem emptyFn (w : World) : Calls Try.prog 16 #[.agg #[.slice none 0 0, .slice none 0 0, .slice none 0 0]] w (fun e w' => e = .returned (.int .i64 0) ∧ Below w.heap.size w w') := by
  go_enter Try.func16, Try.ntmps16
  go_wp2
  refine wp_loop_once ?_
  go_wp2
  refine wp_loop_once ?_
  go_wp2
  refine wp_loop_once ?_
  go_wp2
  go_ret
  exact ⟨rfl, (Below.refl _ _).alloc (Nat.le_refl _) _⟩
end Go.Proofs.Ytcopoaaofjeklaa
end
section
/- The walk of the statements' known: two processes' graph is explored, or refused. -/
namespace Go.Proofs.Ytcopoaaofjeklaa
open Go.RowKit Go.Maps
set_option linter.unusedVariables false
set_option linter.unusedSimpArgs false

theorem two_chk : chk twoN = true := by decide
theorem two_small : Small twoN := ⟨by decide, by decide, fun i hi j hj => by
  match i, hi, j, hj with
  | 0, _, 0, _ => exact ⟨by simp [twoN], by simp [twoN]⟩
  | 0, _, 1, _ => exact ⟨by simp [twoN], by simp [twoN]⟩
  | 0, _, j + 2, h => exact absurd h (by simp [twoN])
  | 1, _, j, h => exact absurd h (by simp [twoN])
  | i + 2, h, _, _ => exact absurd h (by simp [twoN])⟩
theorem two_ex2 : exF twoN 2 20001 0 [0] = some ([0, 1], twoN) := by rfl
theorem two_ex1 : exF twoN 1 20001 0 [0] = none := by rfl
theorem key1 : keyS 1 = ⟨#[1]⟩ := by
  unfold keyS
  rw [enc_lt (by omega)]
  rfl
end Go.Proofs.Ytcopoaaofjeklaa
end
section
/- The walk of NetAgain: a graph that is explored may be, and explored again it is the same. -/
namespace Go.Proofs.Ytcopoaaofjeklaa
open Go.RowKit Go.Maps
set_option linter.unusedVariables false
set_option linter.unusedSimpArgs false

theorem stepA_goes {most : Nat} {st st1 : List Nat} {a b : PArc} (h : stepA most st a = some (st1, b)) : ∃ t, b = a.goes t := by
  unfold stepA at h
  split at h
  · split at h
    · injection h with h; injection h with _ h; exact ⟨_, h.symm⟩
    · split at h
      · cases h
      · injection h with h; injection h with _ h; exact ⟨_, h.symm⟩
  · injection h with h; injection h with _ h; exact ⟨_, h.symm⟩
theorem stepAs_goes {most : Nat} : ∀ {l : List PArc} {st st1 : List Nat} {bs : List PArc}, stepAs most st l = some (st1, bs) → ∀ b ∈ bs, ∃ a ∈ l, ∃ t, b = a.goes t
  | [], st, st1, bs, h, b, hb => by
    rw [stepAs] at h; injection h with h; injection h with _ h; subst h; cases hb
  | a :: l, st, st1, bs, h, b, hb => by
    rw [stepAs] at h
    split at h
    · cases h
    · rename_i st' b1 e1
      split at h
      · cases h
      · rename_i st2 bs2 e2
        injection h with h; injection h with _ h; subst h
        rcases List.mem_cons.1 hb with rfl | hb
        · obtain ⟨t, ht⟩ := stepA_goes e1
          exact ⟨a, by simp, t, ht⟩
        · obtain ⟨a', ha, t, ht⟩ := stepAs_goes e2 b hb
          exact ⟨a', by simp [ha], t, ht⟩
theorem exF_goes {N : PNet} {most : Nat} : ∀ {fu i : Nat} {st st1 : List Nat} {out : PNet}, exF N most fu i st = some (st1, out) → ∀ x ∈ out, ∀ b ∈ x.arcs, ∃ y ∈ N, ∃ a ∈ y.arcs, ∃ t, b = a.goes t
  | 0, i, st, st1, out, h => by rw [exF] at h; cases h
  | fu + 1, i, st, st1, out, h => by
    rw [exF] at h
    split at h
    · injection h with h; injection h with _ h; subst h
      intro x hx; cases hx
    · split at h
      · cases h
      · rename_i y hy
        split at h
        · cases h
        · rename_i st' bs h1
          split at h
          · cases h
          · rename_i st2 out2 h2
            injection h with h; injection h with _ h; subst h
            intro x hx b hb
            rcases List.mem_cons.1 hx with rfl | hx
            · obtain ⟨a, ha, t, ht⟩ := stepAs_goes h1 b hb
              exact ⟨y, List.mem_of_getElem? hy, a, ha, t, ht⟩
            · exact exF_goes h2 x hx b hb
theorem Small.mem {N : PNet} (h : Small N) {y : PNode} (hy : y ∈ N) {a : PArc} (ha : a ∈ y.arcs) : a.reads.length ≤ 2000000 ∧ a.writes.length ≤ 2000000 := by
  obtain ⟨i, hi, rfl⟩ := List.getElem_of_mem hy
  obtain ⟨j, hj, rfl⟩ := List.getElem_of_mem ha
  exact h.reads i hi j hj
theorem small_chk {g : PNet} (hc : chk g = true) (hr : ∀ x ∈ g, ∀ b ∈ x.arcs, b.reads.length ≤ 2000000 ∧ b.writes.length ≤ 2000000) : Small g := by
  unfold chk at hc
  simp only [Bool.and_eq_true, decide_eq_true_eq] at hc
  exact ⟨by omega, by omega, fun i hi j hj => hr _ (List.getElem_mem hi) _ (List.getElem_mem hj)⟩
end Go.Proofs.Ytcopoaaofjeklaa
end
