/- Words for memory (printed by mkna.py out of chapter 03's texts). -/
import Derived.Test.YtpednhcfkjjcpaaRows
import Derived.WalkKit
import Derived.WalkSpells
import Derived.WalkLawsBesides
import Derived.Deep.Draws
import Derived.Lib.Hide
import Derived.BigQuiet
import Derived.Deep.QuietTactic
import Derived.Laws.OwnMore
import Derived.Laws.Rows
import Derived.Maps.AppendAt
import Derived.RangeFuncBox
import Derived.Deep.MidRow
import Derived.Laws.AppendOwnNone
import Derived.Deep.AppendLies
namespace Go.Proofs.Ytpednhcfkjjcpaa
open Go.RowKit
set_option linter.unusedVariables false
set_option linter.unusedSectionVars false

/-- Block g holds just the cells cs, of element type t, none frozen. -/
def Holds (w : World) (g : Nat) (t : TypeId) (cs : List Value) : Prop := w.heap[g]? = some (.cells cs.toArray t (0, 0))

section
variable {w w' : World} {g : Nat} {t : TypeId} {cs : List Value}
theorem Holds.lt (h : Holds w g t cs) : g < w.heap.size := (Array.getElem?_eq_some_iff.1 h).1
theorem Holds.cell (h : Holds w g t cs) (i : Nat) : w.cell? ⟨g, i, none⟩ = cs[i]? := by
  rw [cell_of_row w g i cs.toArray t (0, 0) h]; simp
theorem Holds.free (h : Holds w g t cs) (i : Nat) : w.frozen? ⟨g, i, none⟩ = false := frozen_of_row w g i cs.toArray t h
theorem Holds.new (w : World) (t : TypeId) (cs : Array Value) : Holds (w.alloc (.cells cs t)) w.heap.size t cs.toList := by
  unfold Holds; rw [heap_alloc_new]
theorem Holds.alloc (h : Holds w g t cs) (o : Obj) : Holds (w.alloc o) g t cs := (Below.heap_alloc w o g h.lt).trans h
theorem Holds.put (h : Holds w g t cs) (i : Nat) (u : Value) : Holds (w.setCell ⟨g, i, none⟩ u) g t (cs.set i u) := by
  have e := heap_setCell_same w g i cs.toArray t u h
  unfold Holds; rw [e]; simp
theorem Holds.far (h : Holds w g t cs) {p : Addr} (hp : g ≠ p.block) (u : Value) : Holds (w.setCell p u) g t cs := (Below.heap_setCell w p u g hp).trans h
theorem Holds.ne_of_type {g' : Nat} {t' : TypeId} {cs' : List Value} (h : Holds w g t cs) (h' : Holds w g' t' cs') (hne : t ≠ t') : g ≠ g' := by
  rintro rfl
  unfold Holds at h h'
  rw [h] at h'
  injection h' with h'
  injection h' with _ ht
  exact hne ht
theorem Holds.of_eq (h : Holds w g t cs) (he : w'.heap[g]? = w.heap[g]?) : Holds w' g t cs := he.trans h
end

/-- As Holds, where part of the block may be frozen: it is read alone. -/
def HoldsR (w : World) (g : Nat) (t : TypeId) (cs : List Value) : Prop := ∃ fr, w.heap[g]? = some (.cells cs.toArray t fr)
section
variable {w w' : World} {g : Nat} {t : TypeId} {cs : List Value}
theorem Holds.r (h : Holds w g t cs) : HoldsR w g t cs := ⟨_, h⟩
theorem HoldsR.lt (h : HoldsR w g t cs) : g < w.heap.size := by
  obtain ⟨fr, h⟩ := h
  exact (Array.getElem?_eq_some_iff.1 h).1
theorem HoldsR.cell (h : HoldsR w g t cs) (i : Nat) : w.cell? ⟨g, i, none⟩ = cs[i]? := by
  obtain ⟨fr, h⟩ := h
  rw [cell_of_row w g i cs.toArray t fr h]; simp
theorem HoldsR.of_eq (h : HoldsR w g t cs) (he : w'.heap[g]? = w.heap[g]?) : HoldsR w' g t cs := by
  obtain ⟨fr, h⟩ := h
  exact ⟨fr, he.trans h⟩
theorem HoldsR.belowAll (h : HoldsR w g t cs) (hb : Below w.heap.size w w') : HoldsR w' g t cs := h.of_eq (hb.block g h.lt)
end

/-- Outside F nothing that was there has turned. -/
structure Fr (F : Nat → Prop) (w w' : World) : Prop where
  os : w'.os = w.os
  tape : w'.tape = w.tape
  output : w'.output = w.output
  size : w.heap.size ≤ w'.heap.size
  block : ∀ k, k < w.heap.size → ¬ F k → w'.heap[k]? = w.heap[k]?

section
variable {F G : Nat → Prop} {a w w' : World}
theorem Fr.refl (F : Nat → Prop) (w : World) : Fr F w w := ⟨rfl, rfl, rfl, Nat.le_refl _, fun _ _ _ => rfl⟩
theorem Fr.mono (h : Fr F w w') (hF : ∀ k, k < w.heap.size → F k → G k) : Fr G w w' := ⟨h.os, h.tape, h.output, h.size, fun k hk hn => h.block k hk fun hf => hn (hF k hk hf)⟩
theorem Fr.trans (h : Fr F a w) (k : Fr G w w') (hG : ∀ i, i < a.heap.size → G i → F i) : Fr F a w' :=
  ⟨k.os.trans h.os, k.tape.trans h.tape, k.output.trans h.output, Nat.le_trans h.size k.size,
    fun i hi hn => (k.block i (Nat.lt_of_lt_of_le hi h.size) fun hg => hn (hG i hi hg)).trans (h.block i hi hn)⟩
theorem Fr.of_below (h : Below w.heap.size w w') (F : Nat → Prop) : Fr F w w' := ⟨h.os, h.tape, h.output, h.size, fun k hk _ => h.block k hk⟩
theorem Fr.to_below {B : Nat} (h : Fr F w w') (hB : B ≤ w.heap.size) (hF : ∀ k, k < B → ¬ F k) : Below B w w' := ⟨h.os, h.tape, h.output, h.size, fun k hk => h.block k (by omega) (hF k hk)⟩
theorem Fr.drew (h : Fr F a w) : Fr F a w.drew := ⟨h.os, h.tape, h.output, h.size, h.block⟩
theorem Fr.drewN (h : Fr F a w) (n : Nat) : Fr F a (w.drewN n) := ⟨h.os, h.tape, h.output, h.size, h.block⟩
theorem Fr.alloc (h : Fr F a w) (o : Obj) : Fr F a (w.alloc o) :=
  ⟨h.os, h.tape, h.output, Nat.le_trans h.size (by simp), fun k hk hn => (Below.heap_alloc _ _ _ (Nat.lt_of_lt_of_le hk h.size)).trans (h.block k hk hn)⟩
theorem Fr.setCell (h : Fr F a w) {p : Addr} (hp : p.block < a.heap.size → F p.block) (u : Value) : Fr F a (w.setCell p u) :=
  ⟨h.os, h.tape, h.output, by simpa [World.setCell] using h.size, fun k hk hn => (Below.heap_setCell _ _ _ _ (by rintro rfl; exact hn (hp hk))).trans (h.block k hk hn)⟩
theorem Fr.grown {row : Option Nat} (h : Fr F a w) (hg : w.grownBy w' row) (hr : ∀ k, row = some k → k < a.heap.size → F k) : Fr F a w' :=
  ⟨hg.os.trans h.os, hg.tape.trans h.tape, hg.output.trans h.output, Nat.le_trans h.size hg.size,
    fun k hk hn => (hg.block k (Nat.lt_of_lt_of_le hk h.size) fun e => hn (hr k e.symm hk)).trans (h.block k hk hn)⟩
theorem Fr.holds {g : Nat} {t : TypeId} {cs : List Value} (h : Fr F w w') (hh : Holds w g t cs) (hn : ¬ F g) : Holds w' g t cs := hh.of_eq (h.block g hh.lt hn)
theorem Fr.owns {base : Nat} {e : TypeId} {size n : Nat} {v : Value} {xs : List Value} (h : Fr F w w') (ho : w.ownsRow base e size v n xs) (hn : ∀ g, v.ownBlock = some g → ¬ F g) : w'.ownsRow base e size v n xs := by
  refine ⟨ho.1, ?_⟩
  rcases ho.2 with h0 | ⟨g, cap, cur, rfl, hb, hgg, rest⟩
  · exact .inl h0
  · exact .inr ⟨g, cap, cur, rfl, hb, (h.block g (Array.getElem?_eq_some_iff.1 hgg).1 (hn g rfl)).trans hgg, rest⟩
end

theorem owns_ne_holds {w : World} {base : Nat} {e t : TypeId} {size n : Nat} {v : Value} {xs cs : List Value} {g : Nat} (h : w.ownsRow base e size v n xs) (hg : Holds w g t cs) (hne : e ≠ t) : v.ownBlock ≠ some g := by
  rcases h.2 with ⟨rfl, _⟩ | ⟨g', cap, cur, rfl, _, hh, _⟩
  · simp [Value.ownBlock]
  · intro he
    have : g' = g := by simpa [Value.ownBlock] using he
    subst this
    unfold Holds at hg
    rw [hh] at hg
    injection hg with hg
    injection hg with _ ht
    exact hne ht


/-- A store in a block that is known whole, and one elsewhere. -/
theorem Holds.put_ {w : World} {g : Nat} {t : TypeId} {cs : List Value} (h : Holds w g t cs) (i : Nat) (u : Value) : Holds (w.setCell ⟨g, i, none⟩ u) g t (cs.set i u) := h.put i u
theorem Holds.below {w w' : World} {g B : Nat} {t : TypeId} {cs : List Value} (h : Holds w g t cs) (hb : Below B w w') (hg : g < B) : Holds w' g t cs := h.of_eq (hb.block g hg)
theorem Holds.belowAll {w w' : World} {g : Nat} {t : TypeId} {cs : List Value} (h : Holds w g t cs) (hb : Below w.heap.size w w') : Holds w' g t cs := h.below hb h.lt
/-- An own row that is not empty has a head. -/
theorem owns_head {w : World} {base : Nat} {e : TypeId} {size n cap : Nat} {a : Option Addr} {xs : List Value} (h : w.ownsRow base e size (.slice a n cap) n xs) (hn : 0 < n) :
    ∃ g, a = some ⟨g, 0, none⟩ ∧ base ≤ g ∧ g < w.heap.size ∧ n ≤ cap ∧ cap ≤ maxLen ∧ (∀ j, j < n * size → w.cell? ⟨g, j, none⟩ = xs[j]?) ∧ ∀ j, w.frozen? ⟨g, j, none⟩ = false := by
  rcases h.2 with ⟨h0, h1⟩ | ⟨g, cap', cur, hv, hb, hg, hnc, hcm, hcs, ht⟩
  · omega
  · have hv' := hv
    injection hv with h1 h2 h3
    subst h1; subst h3
    exact ⟨g, rfl, hb, (Array.getElem?_eq_some_iff.1 hg).1, hnc, hcm, fun j hj => h.cellAt j hj, fun j => h.frozenAt j⟩
/-- Only the parser has turned. -/
abbrev Fp (p : Nat) (w w' : World) : Prop := Fr (fun k => k = p) w w'
theorem Fp.of_below {p : Nat} {w w' : World} (h : Below w.heap.size w w') : Fp p w w' := Fr.of_below h _
theorem Fp.set {p : Nat} {w W : World} (h : Fp p w W) (i : Nat) (u : Value) : Fp p w (W.setCell ⟨p, i, none⟩ u) := Fr.setCell h (fun _ => rfl) u
theorem Fp.refl (p : Nat) (w : World) : Fp p w w := Fr.refl _ _
theorem Fp.trans {p : Nat} {a b c : World} (h : Fp p a b) (k : Fp p b c) : Fp p a c := Fr.trans h k fun _ _ h => h
theorem Fp.far {p : Nat} {a w : World} (h : Fp p a w) {b : Nat} (hb : a.heap.size ≤ b) (i : Nat) (u : Value) : Fp p a (w.setCell ⟨b, i, none⟩ u) := Fr.setCell h (fun hk => absurd hk (Nat.not_lt.2 hb)) u
/-- The blocks of P have not turned; they lie in Q. -/
def Keep (P : Nat → Prop) (w w' : World) : Prop := ∀ k, P k → k < w.heap.size → w'.heap[k]? = w.heap[k]?
def Wide (P Q : Nat → Prop) (w : World) : Prop := ∀ k, P k → k < w.heap.size → Q k
abbrev From (lo : Nat) : Nat → Prop := fun k => lo ≤ k
theorem Wide.from {a b : Nat} {w : World} (h : a ≤ b) : Wide (From b) (From a) w := fun k hk _ => Nat.le_trans h hk

/-- A slice that reads flat, its row lying in a block of P. -/
def RowL (P : Nat → Prop) (w : World) (size : Nat) (v : Value) (n : Nat) (flat : List Value) : Prop :=
  ∃ a cap, v = .slice a n cap ∧ n ≤ cap ∧ cap ≤ 9223372036854775807 ∧ flat.length = n * size ∧ (a = none → cap = 0) ∧ (0 < n → ∃ g o cs t, a = some ⟨g, o, none⟩ ∧ P g ∧ HoldsR w g t cs ∧ ∀ j, j < n * size → cs[o + j]? = flat[j]?)
section
variable {P Q : Nat → Prop} {size n : Nat} {w w' : World} {v : Value} {flat : List Value}
theorem RowL.up (h : RowL P w size v n flat) (hu : Keep P w w') : RowL P w' size v n flat := by
  obtain ⟨a, cap, h1, h2, h3, h4, h5, h6⟩ := h
  refine ⟨a, cap, h1, h2, h3, h4, h5, fun hn => ?_⟩
  obtain ⟨g, o, cs, t, k1, k2, k3, k4⟩ := h6 hn
  exact ⟨g, o, cs, t, k1, k2, k3.of_eq (hu _ k2 k3.lt), k4⟩
theorem RowL.mono (h : RowL P w size v n flat) (hl : Wide P Q w) : RowL Q w size v n flat := by
  obtain ⟨a, cap, h1, h2, h3, h4, h5, h6⟩ := h
  refine ⟨a, cap, h1, h2, h3, h4, h5, fun hn => ?_⟩
  obtain ⟨g, o, cs, t, k1, k2, k3, k4⟩ := h6 hn
  exact ⟨g, o, cs, t, k1, hl _ k2 k3.lt, k3, k4⟩
theorem RowL.nil (P : Nat → Prop) (w : World) (size : Nat) : RowL P w size (.slice none 0 0) 0 [] := ⟨none, 0, rfl, by omega, by omega, by simp, fun _ => rfl, fun h => by omega⟩
theorem RowL.form (h : RowL P w size v n flat) : ∃ a cap, v = .slice a n cap ∧ n ≤ cap ∧ cap ≤ 9223372036854775807 ∧ (a = none → cap = 0) := by
  obtain ⟨a, cap, h1, h2, h3, h4, h5, h6⟩ := h
  exact ⟨a, cap, h1, h2, h3, h5⟩
theorem RowL.of_owns {base : Nat} {e : TypeId} (h : w.ownsRow base e size v n flat) (hl : ∀ k, base ≤ k → P k) : RowL P w size v n flat := by
  have hlen := h.1
  rcases h.2 with ⟨h0, h1⟩ | ⟨g, cap, cur, hv, hb, hg, hnc, hcm, hcs, ht⟩
  · subst h0
    subst h1
    exact ⟨none, 0, rfl, by omega, by omega, hlen, fun _ => rfl, fun hn => by omega⟩
  · subst hv
    exact ⟨some ⟨g, 0, none⟩, cap, rfl, hnc, by unfold maxLen at hcm; omega, hlen, (fun h => by cases h), fun hn => ⟨g, 0, cur.toList, e, rfl, hl _ hb, ⟨(0, 0), by simpa using hg⟩, fun j hj => by
      have h2 := h.cellAt (g := g) (j := j) hj
      rw [Nat.zero_add, ← h2, Holds.cell (show Holds w g e cur.toList by unfold Holds; simpa using hg)]⟩⟩
theorem RowL.of_holds {g n : Nat} {t : TypeId} {cs : List Value} (h : Holds w g t cs) (hl : P g) (hn : n ≤ 65536) (hs : cs.length = n * size) : RowL P w size (.slice (some ⟨g, 0, none⟩) n n) n cs :=
  ⟨some ⟨g, 0, none⟩, n, rfl, Nat.le_refl _, by omega, hs, (fun h => by cases h), fun _ => ⟨g, 0, cs, t, rfl, hl, h.r, fun j _ => by rw [Nat.zero_add]⟩⟩
end
theorem owns_lit {w : World} {base g size : Nat} {t : TypeId} {cs : List Value} (h : Holds w g t cs) (hb : base ≤ g) (hs : cs.length = size) (h1 : size ≤ 65536) : w.ownsRow base t size (.slice (some ⟨g, 0, none⟩) 1 1) 1 cs :=
  ⟨by rw [hs, Nat.one_mul], .inr ⟨g, 1, cs.toArray, rfl, hb, h, Nat.le_refl _, by unfold maxLen; omega, by simp [hs], by rw [Nat.one_mul, ← hs]; simp⟩⟩
theorem info_of {P : Program} {e : TypeId} {sz bytes : Nat} (h : (P.info? e).map (fun i => (i.zero.map fun z => z.cells.size, i.size, i.bytes)) = some (some sz, sz, bytes)) :
    ∃ i z, P.info? e = some i ∧ i.zero = some z ∧ i.size = sz ∧ i.bytes = bytes ∧ z.cells.size = sz := by
  obtain ⟨i, hi, hzz⟩ := Option.map_eq_some_iff.1 h
  simp only [Prod.mk.injEq] at hzz
  obtain ⟨z, hz, hs⟩ := Option.map_eq_some_iff.1 hzz.1
  exact ⟨i, z, hi, hz, hzz.2.1, hzz.2.2, hs⟩
theorem owns_ge {w : World} {base size n : Nat} {t : TypeId} {v : Value} {xs : List Value} (h : w.ownsRow base t size v n xs) : ∀ g, v.ownBlock = some g → base ≤ g := fun g e => (h.lt g e).1
theorem owns_lt {w : World} {base size n : Nat} {t : TypeId} {v : Value} {xs : List Value} (h : w.ownsRow base t size v n xs) : ∀ g, v.ownBlock = some g → g < w.heap.size := fun g e => (h.lt g e).2
/-- Outside a block. -/
abbrev But (base : Nat) (v : Value) : Nat → Prop := fun k => base ≤ k ∧ v.ownBlock ≠ some k
theorem Keep.grown {base : Nat} {w w' : World} {v : Value} (hg : w.grownBy w' v.ownBlock) : Keep (But base v) w w' := fun k hk hs => hg.block k hs fun e => hk.2 e.symm
theorem Wide.grown {base : Nat} {w w' : World} {v v' : Value} (hs : w.heap.size ≤ w'.heap.size) (h : v'.ownBlock = v.ownBlock ∨ v'.ownBlock = some w.heap.size) : ∀ k, But base v k → k < w.heap.size → But base v' k := fun k hk hl =>
  ⟨hk.1, h.elim (fun h => by rw [h]; exact hk.2) (fun h => by rw [h]; intro e; injection e with e; omega)⟩
theorem Keep.below {P : Nat → Prop} {w w' : World} (h : Below w.heap.size w w') : Keep P w w' := fun k _ hs => h.block k hs
theorem Keep.trans {P : Nat → Prop} {a b c : World} (h : Keep P a b) (k : Keep P b c) (hs : a.heap.size ≤ b.heap.size) : Keep P a c := fun i hi hl => (k i hi (Nat.lt_of_lt_of_le hl hs)).trans (h i hi hl)
theorem owns_below {w w' : World} {base size n : Nat} {t : TypeId} {v : Value} {xs : List Value} (h : w.ownsRow base t size v n xs) (hb : Below w.heap.size w w') : w'.ownsRow base t size v n xs := (Fr.of_below hb (fun _ => False)).owns h fun _ _ h => h
theorem Wide.but {base b : Nat} {w : World} {v : Value} (hb : base ≤ b) (hv : v.ownBlock = some w.heap.size) : Wide (From b) (But base v) w := fun k hk hs => ⟨Nat.le_trans hb hk, by rw [hv]; intro e; injection e with e; omega⟩
theorem Wide.new {base b : Nat} {w : World} {v : Value} (hv : v.ownBlock = some b) (hb : w.heap.size ≤ b) : Wide (From base) (But base v) w := fun k hk hs => ⟨hk, by rw [hv]; intro e; injection e with e; omega⟩
theorem Wide.but2 {base b : Nat} {w wr : World} {v : Value} (hb : base ≤ b) (hv : ∀ g, v.ownBlock = some g → g < b) : Wide (From b) (But base v) w := fun k hk hs => ⟨Nat.le_trans hb hk, fun e => by have := hv k e; have : b ≤ k := hk; omega⟩
theorem Wide.of_but {base : Nat} {w : World} {v : Value} : Wide (But base v) (From base) w := fun k hk _ => hk.1
theorem Wide.in_ {P : Nat → Prop} {w : World} : Wide P (fun k => P k ∧ k < w.heap.size) w := fun k hk hs => ⟨hk, hs⟩
theorem Keep.imp {P Q : Nat → Prop} {w w' : World} (h : Keep P w w') (hq : ∀ k, Q k → P k) : Keep Q w w' := fun k hk hs => h k (hq k hk) hs
theorem Wide.out {base : Nat} {w w' : World} {v v' : Value} (h : v'.ownBlock = v.ownBlock ∨ v'.ownBlock = some w.heap.size) : Wide (fun k => But base v k ∧ k < w.heap.size) (But base v') w' := fun k hk _ =>
  ⟨hk.1.1, h.elim (fun h => by rw [h]; exact hk.1.2) (fun h => by rw [h]; intro e; injection e with e; have := hk.2; omega)⟩
/-- A row that is not empty can be appended from. -/
theorem RowL.source {P : Nat → Prop} {w : World} {size n : Nat} {v : Value} {flat : List Value} (h : RowL P w size v n flat) (hn : 0 < n) : ∃ ad cap, v = .slice (some ad) n cap ∧ (∀ j u, flat[j]? = some u → w.cell? (ad.add j) = some u) ∧ flat.length = n * size := by
  obtain ⟨a, cap, h1, h2, h3, h4, h5, h6⟩ := h
  obtain ⟨g, o, cs, t, k1, k2, k3, k4⟩ := h6 hn
  subst k1
  refine ⟨_, cap, h1, fun j u hu => ?_, h4⟩
  have hj : j < flat.length := (List.getElem?_eq_some_iff.1 hu).1
  rw [Addr.add_lit, k3.cell, k4 j (by omega)]
  exact hu
/-- Cells of a box, from i on, are stored. -/
def setR (W : World) (b : Nat) : Nat → List Value → World
  | _, [] => W
  | i, x :: r => setR (W.setCell ⟨b, i, none⟩ x) b (i + 1) r
def putR (cs : List Value) : Nat → List Value → List Value
  | _, [] => cs
  | i, x :: r => putR (cs.set i x) (i + 1) r
section
variable {b b' p : Nat} {t : TypeId}
theorem Holds.setR : ∀ (xs : List Value) (i : Nat) {W : World} {cs : List Value}, Holds W b t cs → Holds (setR W b i xs) b t (putR cs i xs)
  | [], _, _, _, h => h
  | x :: r, i, _, _, h => Holds.setR r (i + 1) (h.put i x)
theorem Holds.farR (hb : b ≠ b') : ∀ (xs : List Value) (i : Nat) {W : World} {cs : List Value}, Holds W b t cs → Holds (Go.Proofs.Ytpednhcfkjjcpaa.setR W b' i xs) b t cs
  | [], _, _, _, h => h
  | x :: r, i, _, _, h => Holds.farR hb r (i + 1) (h.far (p := ⟨b', i, none⟩) hb x)
theorem Fp.selfR : ∀ (xs : List Value) (i : Nat) {a W : World}, Fp b a W → Fp b a (Go.Proofs.Ytpednhcfkjjcpaa.setR W b i xs)
  | [], _, _, _, h => h
  | x :: r, i, _, _, h => Fp.selfR r (i + 1) (h.set i x)
theorem Keep.setR {P : Nat → Prop} {W : World} (hb : ¬ P b) (xs : List Value) (i : Nat) : Keep P W (Go.Proofs.Ytpednhcfkjjcpaa.setR W b i xs) := fun k hk hs =>
  (Fp.selfR xs i (Fp.refl b W)).block k hs fun e => hb (e ▸ hk)
theorem setR_size : ∀ (xs : List Value) (i : Nat) (W : World), (Go.Proofs.Ytpednhcfkjjcpaa.setR W b i xs).heap.size = W.heap.size
  | [], _, _ => rfl
  | x :: r, i, W => by
    rw [Go.Proofs.Ytpednhcfkjjcpaa.setR, setR_size r (i + 1)]
    simp [World.setCell]
end
/-- A row of things, one behind the other. -/
def LsF {A : Type} (F : (Nat → Prop) → World → A → List Value → Prop) (P : Nat → Prop) (w : World) : List A → List Value → Prop
  | [], f => f = []
  | a :: l, f => ∃ c r, f = c ++ r ∧ F P w a c ∧ LsF F P w l r
section
variable {A : Type} {F : (Nat → Prop) → World → A → List Value → Prop} {P Q : Nat → Prop} {w w' : World}
theorem LsF.up (hF : ∀ a c, F P w a c → F P w' a c) : ∀ (l : List A) {f : List Value}, LsF F P w l f → LsF F P w' l f
  | [], f, h => h
  | a :: l, f, ⟨c, r, h1, h2, h3⟩ => ⟨c, r, h1, hF a c h2, LsF.up hF l h3⟩
theorem LsF.mono (hF : ∀ a c, F P w a c → F Q w a c) : ∀ (l : List A) {f : List Value}, LsF F P w l f → LsF F Q w l f
  | [], f, h => h
  | a :: l, f, ⟨c, r, h1, h2, h3⟩ => ⟨c, r, h1, hF a c h2, LsF.mono hF l h3⟩
theorem LsF.append : ∀ {l m : List A} {f g : List Value}, LsF F P w l f → LsF F P w m g → LsF F P w (l ++ m) (f ++ g)
  | [], m, f, g, h, k => by obtain rfl := h; exact k
  | a :: l, m, f, g, ⟨c, r, h1, h2, h3⟩, k => ⟨c, r ++ g, by rw [h1, List.append_assoc], h2, LsF.append h3 k⟩
theorem LsF.sing {a : A} {c : List Value} (h : F P w a c) : LsF F P w [a] c := ⟨c, [], (List.append_nil c).symm, h, rfl⟩
end
theorem LsF.at {A : Type} {G : (Nat → Prop) → World → A → List Value → Prop} {P : Nat → Prop} {w : World} {n : Nat} (hl : ∀ a c, G P w a c → c.length = n) : ∀ {l : List A} {f : List Value} {k : Nat} (hk : k < l.length), LsF G P w l f → ∃ c, G P w l[k] c ∧ ∀ j, j < n → f[k * n + j]? = c[j]?
  | a :: l, f, 0, hk, ⟨c, r, h1, h2, h3⟩ => ⟨c, h2, fun j hj => by rw [h1, Nat.zero_mul, Nat.zero_add, List.getElem?_append_left (by rw [hl a c h2]; exact hj)]⟩
  | a :: l, f, k + 1, hk, ⟨c, r, h1, h2, h3⟩ => by
    obtain ⟨c', h4, h5⟩ := LsF.at hl (k := k) (by simpa using hk) h3
    refine ⟨c', by simpa using h4, fun j hj => ?_⟩
    have hc := hl a c h2
    rw [h1, List.getElem?_append_right (by rw [hc, Nat.succ_mul]; omega), hc, show (k + 1) * n + j - n = k * n + j by rw [Nat.succ_mul]; omega]
    exact h5 j hj
theorem Below.far {B : Nat} {w W : World} (h : Below B w W) (hb : B ≤ W.heap.size) (o : Obj) (xs : List Value) (i : Nat) : Below B w (setR (W.alloc o) W.heap.size i xs) := by
  have h1 : Below B w (W.alloc o) := h.alloc hb o
  have : ∀ (xs : List Value) (i : Nat) {V : World}, Below B w V → Below B w (setR V W.heap.size i xs) := by
    intro xs
    induction xs with
    | nil => intro i V hV; exact hV
    | cons x r ih => intro i V hV; exact ih (i + 1) (hV.setCell hb x)
  exact this xs i h1
/-- What an element's fact says of its cells. -/
structure One {A : Type} (G : (Nat → Prop) → World → A → List Value → Prop) (n : Nat) : Prop where
  len : ∀ {P w a c}, G P w a c → c.length = n
  one : ∀ {P w a c}, G P w a c → c.all (·.oneCell') = true
  up : ∀ {P : Nat → Prop} {w w' : World} {a c}, Keep P w w' → G P w a c → G P w' a c
theorem setR_eq (b : Nat) : ∀ (xs : List Value) (i : Nat) (W : World), W.setCells b i xs = setR W b i xs
  | [], _, _ => rfl
  | x :: r, i, W => setR_eq b r (i + 1) _
theorem putR_from : ∀ (xs : List Value) (i : Nat) (cs : List Value), i + xs.length = cs.length → putR cs i xs = cs.take i ++ xs
  | [], i, cs, h => by rw [putR, List.append_nil, List.take_of_length_le (by simp at h; omega)]
  | x :: r, i, cs, h => by
    rw [putR, putR_from r (i + 1) (cs.set i x) (by simp at h ⊢; omega)]
    have hi : i < cs.length := by simp at h; omega
    rw [List.take_set, List.take_add_one, List.getElem?_eq_getElem hi]
    simp only [Option.toList]
    rw [List.set_append_right _ _ (by simp; omega)]
    simp [Nat.min_eq_left (Nat.le_of_lt hi)]
theorem putR_mid : ∀ (xs : List Value) (i : Nat) (cs : List Value), i + xs.length ≤ cs.length → putR cs i xs = cs.take i ++ (xs ++ cs.drop (i + xs.length))
  | [], i, cs, h => by rw [putR, List.nil_append, List.length_nil, Nat.add_zero, List.take_append_drop]
  | x :: r, i, cs, h => by
    rw [putR, putR_mid r (i + 1) (cs.set i x) (by simp at h ⊢; omega)]
    have hi : i < cs.length := by simp at h; omega
    rw [List.take_set, List.take_add_one, List.getElem?_eq_getElem hi]
    simp only [Option.toList]
    rw [List.set_append_right _ _ (by simp; omega), List.drop_set_of_lt (by omega)]
    simp [Nat.min_eq_left (Nat.le_of_lt hi), show i + 1 + r.length = i + (r.length + 1) by omega]
/-- A box behind a store. -/
theorem Holds.stored {W W' : World} {b i : Nat} {t : TypeId} {cs xs : List Value} (h : Holds W b t cs) (hW : W' = Go.Proofs.Ytpednhcfkjjcpaa.setR W b i xs) (hl : i + xs.length ≤ cs.length) : Holds W' b t (cs.take i ++ (xs ++ cs.drop (i + xs.length))) := by
  rw [← putR_mid xs i cs hl, hW]; exact Holds.setR xs i h
theorem putR_all {xs cs : List Value} (h : cs.length = xs.length) : putR cs 0 xs = xs := by
  have := putR_from xs 0 cs (by omega)
  simpa using this
section
variable {P : Program} {W : World} {b i n : Nat} {t ty : TypeId} {cs xs : List Value}
/-- A thing that lies in a box is read. -/
theorem loadN (h : Holds W b t cs) (hx : (cs.drop i).take n = xs) (d : TypeDesc) (hu : P.underlying ty = some d) (hd : d.isRow = true) (hi : (P.info? ty).map (·.size) = some xs.length) :
    (Instr.loadAt ty (.pointer (some ⟨b, i, none⟩))).run P W = .ok (.agg xs.toArray) W :=
  run_loadAt_mid W b i ty xs d (fun j v hj => by
    rw [h.cell]
    subst hx
    have hl : j < n := by
      have := (List.getElem?_eq_some_iff.1 hj).1
      rw [List.length_take] at this
      omega
    rw [List.getElem?_take_of_lt hl, List.getElem?_drop] at hj
    exact hj) hu hd hi
/-- A thing is stored in a box. -/
theorem storeN (h : Holds W b t cs) (hl : i + xs.length ≤ cs.length) (hi : (P.info? ty).map (·.size) = some xs.length) (h1 : xs.all (·.oneCell') = true) :
    (Instr.storeAt ty (.pointer (some ⟨b, i, none⟩)) (.agg xs.toArray)).run P W = .ok () (setR W b i xs) := by
  rw [← setR_eq]
  have := run_storeAt_mid (P := P) W b i ty xs.toArray (fun j hj => ⟨by rw [h.cell, List.getElem?_eq_getElem (by simp at hj; omega)]; rfl, h.free _⟩) (by simpa using hi) (by simpa using h1)
  simpa using this
/-- One cell is stored. -/
theorem store1 {v : Value} (h : Holds W b t cs) (hl : i < cs.length) (hi : (P.info? ty).map (·.size) = some 1) (hv : v.cells = #[v]) (h1 : v.oneCell' = true) :
    (Instr.storeAt ty (.pointer (some ⟨b, i, none⟩)) v).run P W = .ok () (W.setCell ⟨b, i, none⟩ v) := by
  have := run_storeCells_cells (P := P) b i [v] 0 W (fun j hj => by rw [h.cell, List.getElem?_eq_getElem (by simp at hj; omega)]; rfl) (fun j hj => h.free _) (fun u hu => by simp at hu; rw [hu]; exact h1)
  cases hq : P.info? ty with
  | none => simp [hq] at hi
  | some k =>
    have hs : k.size = 1 := by simpa [hq] using hi
    simp only [Nat.add_zero] at this
    simp [Instr.storeAt, Instr.sureAddr, storeVar, sizeOf, typeInfo, hq, hv, hs, this, World.setCells]
end
/-- What a function hands back out of a box. -/
theorem outBox {P : Program} {fn : Func} {s : Nat} {tmps : Array Value} {W : World} {b : Nat} {t ty : TypeId} {cs : List Value} (hf : fn.results = #[.cell s ty]) (h : Holds W b t cs) (hs : tmps[s]?.getD undef = .pointer (some ⟨b, 0, none⟩))
    (d : TypeDesc) (hu : P.underlying ty = some d) (hd : d.isRow = true) (hi : (P.info? ty).map (·.size) = some cs.length) : (results fn tmps).run P W = .ok (.agg cs.toArray) W := by
  have hl := run_loadVar_mid (P := P) W b 0 ty cs d (fun j v hj => by rw [Nat.zero_add, h.cell]; exact hj) hu hd hi
  simp [results, hf, hs, asAddr, hl]
theorem Holds.range {W : World} {b i n : Nat} {t : TypeId} {cs xs : List Value} (h : Holds W b t cs) (hx : (cs.drop i).take n = xs) : W.rangeAt b i xs := fun j v hj => by
  rw [h.cell]
  subst hx
  have hl : j < n := by
    have := (List.getElem?_eq_some_iff.1 hj).1
    rw [List.length_take] at this
    omega
  rw [List.getElem?_take_of_lt hl, List.getElem?_drop] at hj
  exact hj
section
variable {P : Program} {W : World} {ops : Array Oper} {rest : List Oper} {o : Oper} {a : Act} {Q : Exit → Act → World → Prop} {t : TypeId} {cs : List Value}
/-- The walk stands still here: the world gets a name. -/
def Named (W : World) (F : World → Prop) : Prop := ∀ w', w' = W → F w'
theorem Named.mk {W : World} {F : World → Prop} (h : ∀ w', w' = W → F w') : Named W F := h
/-- A thing is stored in a box: the world behind it has a name. -/
theorem wpList_storeB (hgd : o.guard = none) (ty : TypeId) (x y : Operand) (ho : o.op = .store ty x y) (b i : Nat) (xs : List Value) (hx : a.eval x = .pointer (some ⟨b, i, none⟩)) (hy : a.eval y = .agg xs.toArray)
    (h : Holds W b t cs) (hl : i + xs.length ≤ cs.length) (hi : (P.info? ty).map (·.size) = some xs.length) (h1 : xs.all (·.oneCell') = true)
    (hk : Named (setR W b i xs) fun w' => wpList P ops Q rest (a.put o.dst undef) w') : wpList P ops Q (o :: rest) a W :=
  wpList_plain hgd fun K hK => by
    unfold Oper.wp execOp
    simp only [ho, hx, hy, Sem.run_bind, Sem.run_pure, Result.andThen_ok, storeN h hl hi h1]
    exact hK _ _ (hk _ rfl)
theorem wpList_store1 (hgd : o.guard = none) (ty : TypeId) (x y : Operand) (ho : o.op = .store ty x y) (b i : Nat) (v : Value) (hx : a.eval x = .pointer (some ⟨b, i, none⟩)) (hy : a.eval y = v)
    (h : Holds W b t cs) (hl : i < cs.length) (hi : (P.info? ty).map (·.size) = some 1) (hv : v.cells = #[v]) (h1 : v.oneCell' = true)
    (hk : Named (setR W b i [v]) fun w' => wpList P ops Q rest (a.put o.dst undef) w') : wpList P ops Q (o :: rest) a W :=
  wpList_plain hgd fun K hK => by
    unfold Oper.wp execOp
    simp only [ho, hx, hy, Sem.run_bind, Sem.run_pure, Result.andThen_ok, store1 h hl hi hv h1]
    exact hK _ _ (hk _ rfl)
end
theorem range_below {w w' : World} {b o : Nat} {cs : List Value} (h : w.rangeAt b o cs) (hb : Below w.heap.size w w') : w'.rangeAt b o cs := fun j v hj => by
  have h1 := h j v hj
  have h2 := World.block_lt_of_cell? w _ h1
  rw [hb.cell h2]; exact h1
/-- An element of a row. -/
theorem RowL.atN {A : Type} {G : (Nat → Prop) → World → A → List Value → Prop} {n : Nat} (H : One G n) {P : Nat → Prop} {w : World} {v : Value} {l : List A} {f : List Value} {i : Nat} (h : RowL P w n v l.length f) (hf : LsF G P w l f) (hi : i < l.length) :
    ∃ g o cap c, v = .slice (some ⟨g, o, none⟩) l.length cap ∧ G P w l[i] c ∧ w.rangeAt g (o + i * n) c := by
  obtain ⟨a, cap, h1, h2, h3, h4, h5, h6⟩ := h
  obtain ⟨g, o, cs, t, k1, k2, k3, k4⟩ := h6 (by omega)
  subst k1
  obtain ⟨c, hG, hc⟩ := LsF.at (fun a c => H.len) hi hf
  refine ⟨g, o, cap, c, h1, hG, fun j u hj => ?_⟩
  have hj2 : j < n := by have := (List.getElem?_eq_some_iff.1 hj).1; rw [H.len hG] at this; exact this
  have hm : i * n + j < l.length * n := by
    have : (i + 1) * n ≤ l.length * n := Nat.mul_le_mul_right _ hi
    rw [Nat.succ_mul] at this
    omega
  rw [k3.cell, Nat.add_assoc, k4 _ hm, hc j hj2]
  exact hj
/-- A row's cells at index i. -/
theorem RowL.at1 {P : Nat → Prop} {w : World} {v : Value} {n i : Nat} {f : List Value} (h : RowL P w 1 v n f) (hi : i < n) : ∃ g o cap x, v = .slice (some ⟨g, o, none⟩) n cap ∧ f[i]? = some x ∧ w.cell? ⟨g, o + i, none⟩ = some x := by
  obtain ⟨a, cap, h1, h2, h3, h4, h5, h6⟩ := h
  obtain ⟨g, o, cs, t, k1, k2, k3, k4⟩ := h6 (by omega)
  subst k1
  have hl : i < f.length := by omega
  exact ⟨g, o, cap, f[i], h1, List.getElem?_eq_getElem hl, by rw [k3.cell, k4 i (by omega), List.getElem?_eq_getElem hl]⟩
section
variable {P : Program} {w : World} {ops : Array Oper} {rest : List Oper} {o : Oper} {a : Act} {Q : Exit → Act → World → Prop}
/-- A row is appended to an own one. -/
theorem wpList_append_row (hgd : o.guard = none) (s x : Operand) (t : TypeId)
    (ho : o.op = .call { callee := .builtin .append, args := #[s, x], argTypes := #[t, t] })
    (base : Nat) (e : TypeId) (i : TypeInfo) (z : Value) (size bytes : Nat) (ht : P.underlying t = some (.slice e)) (hi : P.info? e = some i) (hz : i.zero = some z)
    (hsize : i.size = size) (hby : i.bytes = bytes) (hzs : z.cells.size = size) (hsz : 0 < size)
    (v : Value) (n : Nat) (xs : List Value) (hs : a.eval s = v) (hown : w.ownsRow base e size v n xs)
    {R : Nat → Prop} (xv : Value) (m : Nat) (news : List Value) (hx : a.eval x = xv) (hr : RowL R w size xv m news) (h1 : ∀ u ∈ news, u.oneCell' = true)
    (h63 : n + m ≤ maxLen) (hbytes : (n + m) * bytes ≤ 140737488355328) (hbase : base ≤ w.heap.size)
    (h : ∀ v' w', w'.ownsRow base e size v' (n + m) (xs ++ news) → w.grownBy w' v.ownBlock → (v'.ownBlock = v.ownBlock ∨ v'.ownBlock = some w.heap.size) → wpList P ops Q rest (a.put o.dst v') w') :
    wpList P ops Q (o :: rest) a w := by
  have hr2 := hr
  obtain ⟨ad, cap, rfl, hc1, hc2, hl, hn, h6⟩ := hr
  cases ad with
  | none =>
    obtain rfl := hn rfl
    obtain rfl : m = 0 := by omega
    have hz0 : news = [] := List.eq_nil_of_length_eq_zero (by simpa using hl)
    subst hz0
    refine wpList_append_own_none hgd s x t ho base e i size ht hi v n xs hs hown hx ?_
    exact h v w (by simpa using hown) (World.grownBy.refl _ _) (.inl rfl)
  | some ad =>
    refine wpList_append_own_at _ hgd s x t ho base e i z size bytes ht hi hz hsize hby hzs hsz v n xs hs hown ad m cap news hx hl ?_ h1 h63 hbytes hbase fun v' w' k1 k2 _ k4 => h v' w' k1 k2 k4
    intro j u hj
    by_cases hm : 0 < m
    · obtain ⟨ad', cap', he, hc, _⟩ := hr2.source hm
      injection he with he _ _
      injection he with he
      subst he
      exact hc j u hj
    · have : news = [] := List.eq_nil_of_length_eq_zero (by rw [hl, show m = 0 by omega]; simp)
      subst this
      simp at hj
end
theorem keep_low {w w' : World} {b : Option Nat} {B : Nat} (h : w.grownBy w' b) (hb : ∀ g, b = some g → B ≤ g) (hB : B ≤ w.heap.size) : Keep (fun k => k < B) w w' := fun k hk hs => h.block k hs fun e => by have := hb k e.symm; omega
/-- An own row is a slice. -/
theorem owns_form {w : World} {base : Nat} {e : TypeId} {size n : Nat} {v : Value} {xs : List Value} (h : w.ownsRow base e size v n xs) : ∃ a cap, v = .slice a n cap ∧ n ≤ cap ∧ cap ≤ maxLen := by
  rcases h.2 with ⟨h0, h1⟩ | ⟨g, cap, cur, hv, hb, hg, hnc, hcm, hcs, ht⟩
  · exact ⟨none, 0, by rw [h0, h1], by omega, by unfold maxLen; omega⟩
  · exact ⟨_, cap, hv, hnc, hcm⟩
end Go.Proofs.Ytpednhcfkjjcpaa
