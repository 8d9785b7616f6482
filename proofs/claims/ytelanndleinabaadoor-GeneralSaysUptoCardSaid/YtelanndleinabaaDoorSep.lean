/- Words for memory: a block that is known whole; what a call leaves alone. -/
import Derived.Test.YtelanndleinabaaDoorRows
import Derived.WalkKit
import Derived.WalkSpells
import Derived.WalkLawsBesides
import Derived.Deep.Draws
import Derived.Lib.Hide
import Derived.BigQuiet
import Derived.Deep.QuietTactic
import Derived.Deep.RegionHeld3
import Derived.StillTailTactics
import Derived.Laws.BytesArg
import Derived.Laws.OwnMore
import Derived.Laws.Rows
import Derived.Maps.AppendAt
import Derived.RangeFuncBox
namespace Go.Proofs.YtelanndleinabaaDoor
open Go.RowKit

/-- Block g holds just the cells cs, of element type t, none frozen. -/
def Holds (w : World) (g : Nat) (t : TypeId) (cs : List Value) : Prop := w.heap[g]? = some (.cells cs.toArray t (0, 0))

section
variable {w w' : World} {g : Nat} {t : TypeId} {cs : List Value}
theorem Holds.lt (h : Holds w g t cs) : g < w.heap.size := (Array.getElem?_eq_some_iff.1 h).1
theorem Holds.cell (h : Holds w g t cs) (i : Nat) : w.cell? ⟨g, i, none⟩ = cs[i]? := by
  rw [cell_of_row w g i cs.toArray t (0, 0) h]; simp
theorem Holds.free (h : Holds w g t cs) (i : Nat) : w.frozen? ⟨g, i, none⟩ = false := frozen_of_row w g i cs.toArray t h
theorem Holds.new (w : World) (t : TypeId) (cs : Array Value) : Holds (w.alloc (.cells cs t)) w.heap.size t cs.toList := by
  unfold Holds; rw [heap_alloc_new]
theorem Holds.alloc (h : Holds w g t cs) (o : Obj) : Holds (w.alloc o) g t cs := (Below.heap_alloc w o g h.lt).trans h
theorem Holds.put (h : Holds w g t cs) (i : Nat) (u : Value) : Holds (w.setCell ⟨g, i, none⟩ u) g t (cs.set i u) := by
  have e := heap_setCell_same w g i cs.toArray t u h
  unfold Holds; rw [e]; simp
theorem Holds.far (h : Holds w g t cs) {p : Addr} (hp : g ≠ p.block) (u : Value) : Holds (w.setCell p u) g t cs := (Below.heap_setCell w p u g hp).trans h
theorem Holds.ne_of_type {g' : Nat} {t' : TypeId} {cs' : List Value} (h : Holds w g t cs) (h' : Holds w g' t' cs') (hne : t ≠ t') : g ≠ g' := by
  rintro rfl
  unfold Holds at h h'
  rw [h] at h'
  injection h' with h'
  injection h' with _ ht
  exact hne ht
theorem Holds.of_eq (h : Holds w g t cs) (he : w'.heap[g]? = w.heap[g]?) : Holds w' g t cs := he.trans h
end

/-- Outside F nothing that was there has turned. -/
structure Fr (F : Nat → Prop) (w w' : World) : Prop where
  os : w'.os = w.os
  tape : w'.tape = w.tape
  output : w'.output = w.output
  size : w.heap.size ≤ w'.heap.size
  block : ∀ k, k < w.heap.size → ¬ F k → w'.heap[k]? = w.heap[k]?

section
variable {F G : Nat → Prop} {a w w' : World}
theorem Fr.refl (F : Nat → Prop) (w : World) : Fr F w w := ⟨rfl, rfl, rfl, Nat.le_refl _, fun _ _ _ => rfl⟩
theorem Fr.mono (h : Fr F w w') (hF : ∀ k, k < w.heap.size → F k → G k) : Fr G w w' := ⟨h.os, h.tape, h.output, h.size, fun k hk hn => h.block k hk fun hf => hn (hF k hk hf)⟩
theorem Fr.trans (h : Fr F a w) (k : Fr G w w') (hG : ∀ i, i < a.heap.size → G i → F i) : Fr F a w' :=
  ⟨k.os.trans h.os, k.tape.trans h.tape, k.output.trans h.output, Nat.le_trans h.size k.size,
    fun i hi hn => (k.block i (Nat.lt_of_lt_of_le hi h.size) fun hg => hn (hG i hi hg)).trans (h.block i hi hn)⟩
theorem Fr.of_below (h : Below w.heap.size w w') (F : Nat → Prop) : Fr F w w' := ⟨h.os, h.tape, h.output, h.size, fun k hk _ => h.block k hk⟩
theorem Fr.to_below {B : Nat} (h : Fr F w w') (hB : B ≤ w.heap.size) (hF : ∀ k, k < B → ¬ F k) : Below B w w' := ⟨h.os, h.tape, h.output, h.size, fun k hk => h.block k (by omega) (hF k hk)⟩
theorem Fr.drew (h : Fr F a w) : Fr F a w.drew := ⟨h.os, h.tape, h.output, h.size, h.block⟩
theorem Fr.drewN (h : Fr F a w) (n : Nat) : Fr F a (w.drewN n) := ⟨h.os, h.tape, h.output, h.size, h.block⟩
theorem Fr.alloc (h : Fr F a w) (o : Obj) : Fr F a (w.alloc o) :=
  ⟨h.os, h.tape, h.output, Nat.le_trans h.size (by simp), fun k hk hn => (Below.heap_alloc _ _ _ (Nat.lt_of_lt_of_le hk h.size)).trans (h.block k hk hn)⟩
theorem Fr.setCell (h : Fr F a w) {p : Addr} (hp : p.block < a.heap.size → F p.block) (u : Value) : Fr F a (w.setCell p u) :=
  ⟨h.os, h.tape, h.output, by simpa [World.setCell] using h.size, fun k hk hn => (Below.heap_setCell _ _ _ _ (by rintro rfl; exact hn (hp hk))).trans (h.block k hk hn)⟩
theorem Fr.grown {row : Option Nat} (h : Fr F a w) (hg : w.grownBy w' row) (hr : ∀ k, row = some k → k < a.heap.size → F k) : Fr F a w' :=
  ⟨hg.os.trans h.os, hg.tape.trans h.tape, hg.output.trans h.output, Nat.le_trans h.size hg.size,
    fun k hk hn => (hg.block k (Nat.lt_of_lt_of_le hk h.size) fun e => hn (hr k e.symm hk)).trans (h.block k hk hn)⟩
theorem Fr.holds {g : Nat} {t : TypeId} {cs : List Value} (h : Fr F w w') (hh : Holds w g t cs) (hn : ¬ F g) : Holds w' g t cs := hh.of_eq (h.block g hh.lt hn)
theorem Fr.owns {base : Nat} {e : TypeId} {size n : Nat} {v : Value} {xs : List Value} (h : Fr F w w') (ho : w.ownsRow base e size v n xs) (hn : ∀ g, v.ownBlock = some g → ¬ F g) : w'.ownsRow base e size v n xs := by
  refine ⟨ho.1, ?_⟩
  rcases ho.2 with h0 | ⟨g, cap, cur, rfl, hb, hgg, rest⟩
  · exact .inl h0
  · exact .inr ⟨g, cap, cur, rfl, hb, (h.block g (Array.getElem?_eq_some_iff.1 hgg).1 (hn g rfl)).trans hgg, rest⟩
end

theorem owns_ne_holds {w : World} {base : Nat} {e t : TypeId} {size n : Nat} {v : Value} {xs cs : List Value} {g : Nat} (h : w.ownsRow base e size v n xs) (hg : Holds w g t cs) (hne : e ≠ t) : v.ownBlock ≠ some g := by
  rcases h.2 with ⟨rfl, _⟩ | ⟨g', cap, cur, rfl, _, hh, _⟩
  · simp [Value.ownBlock]
  · intro he
    have : g' = g := by simpa [Value.ownBlock] using he
    subst this
    unfold Holds at hg
    rw [hh] at hg
    injection hg with hg
    injection hg with _ ht
    exact hne ht


/-- A store in a block that is known whole, and one elsewhere. -/
theorem Holds.put_ {w : World} {g : Nat} {t : TypeId} {cs : List Value} (h : Holds w g t cs) (i : Nat) (u : Value) : Holds (w.setCell ⟨g, i, none⟩ u) g t (cs.set i u) := h.put i u
theorem Holds.below {w w' : World} {g B : Nat} {t : TypeId} {cs : List Value} (h : Holds w g t cs) (hb : Below B w w') (hg : g < B) : Holds w' g t cs := h.of_eq (hb.block g hg)
theorem Holds.belowAll {w w' : World} {g : Nat} {t : TypeId} {cs : List Value} (h : Holds w g t cs) (hb : Below w.heap.size w w') : Holds w' g t cs := h.below hb h.lt
/-- An own row that is not empty has a head. -/
theorem owns_head {w : World} {base : Nat} {e : TypeId} {size n cap : Nat} {a : Option Addr} {xs : List Value} (h : w.ownsRow base e size (.slice a n cap) n xs) (hn : 0 < n) :
    ∃ g, a = some ⟨g, 0, none⟩ ∧ base ≤ g ∧ g < w.heap.size ∧ n ≤ cap ∧ cap ≤ maxLen ∧ (∀ j, j < n * size → w.cell? ⟨g, j, none⟩ = xs[j]?) ∧ ∀ j, w.frozen? ⟨g, j, none⟩ = false := by
  rcases h.2 with ⟨h0, h1⟩ | ⟨g, cap', cur, hv, hb, hg, hnc, hcm, hcs, ht⟩
  · omega
  · have hv' := hv
    injection hv with h1 h2 h3
    subst h1; subst h3
    exact ⟨g, rfl, hb, (Array.getElem?_eq_some_iff.1 hg).1, hnc, hcm, fun j hj => h.cellAt j hj, fun j => h.frozenAt j⟩

theorem below_own {w W w2 : World} {e : TypeId} {size n : Nat} {v : Value} {xs : List Value} (hB : Below w.heap.size w W) (ho : W.ownsRow w.heap.size e size v n xs) (hg : W.grownBy w2 v.ownBlock) : Below w.heap.size w w2 := by
  refine ⟨hg.os.trans hB.os, hg.tape.trans hB.tape, hg.output.trans hB.output, Nat.le_trans hB.size hg.size, fun k hk => (hg.block k (Nat.lt_of_lt_of_le hk hB.size) ?_).trans (hB.block k hk)⟩
  intro hv
  rcases ho.2 with ⟨rfl, _⟩ | ⟨g, cap, cur, rfl, hb, _⟩
  · cases hv
  · have : k = g := by simpa [Value.ownBlock] using hv
    omega

theorem own_kept {W w2 : World} {base : Nat} {e t : TypeId} {size n g : Nat} {v : Value} {xs cs : List Value} (ho : W.ownsRow base e size v n xs) (hg : W.grownBy w2 v.ownBlock) (hH : Holds W g t cs) (hne : e ≠ t) : Holds w2 g t cs := by
  have hF : Fr (fun k => v.ownBlock = some k) W w2 := (Fr.refl _ _).grown hg fun k hk _ => hk
  exact hF.holds hH (owns_ne_holds ho hH hne)

/-- A row of bytes of the call's own, made a string. -/

theorem own_put {w : World} {base g i : Nat} {e t : TypeId} {size n : Nat} {v u : Value} {xs cs : List Value} (h : w.ownsRow base e size v n xs) (hH : Holds w g t cs) (hne : e ≠ t) : (w.setCell ⟨g, i, none⟩ u).ownsRow base e size v n xs :=
  ((Fr.refl (fun k => k = g) w).setCell (fun _ => rfl) u).owns h (fun k hk e => owns_ne_holds h hH hne (by rw [hk, e]))

theorem cells_of_new (w : World) (m : Nat) (hm : w.heap.size = m) (cs : List Value) (t : TypeId) : ∀ (j : Nat) (u : Value), cs[j]? = some u → (w.alloc (.cells cs.toArray t)).cell? ((⟨m, 0, none⟩ : Addr).add j) = some u := by
  intro j u hu
  subst hm
  rw [Addr.add_lit, Nat.zero_add, (Holds.new w t cs.toArray).cell j]
  exact hu

theorem size_setCell (w : World) (p : Addr) (u : Value) : (w.setCell p u).heap.size = w.heap.size := by simp [World.setCell]

theorem quiet_same {P : Program} {f : FuncId} {args : Array Value} {w : World} {n : Nat} {v : Value} (h : Calls P f args (w.drewN n) fun e w' => e = .returned v ∧ w' = w.drewN n) : Calls P f args (w.drewN n) fun e w'' => e = .returned v ∧ ∃ n, w'' = w.drewN n :=
  h.mono fun _ _ ⟨he, hm⟩ => ⟨he, n, hm⟩

theorem quiet_sum {P : Program} {f : FuncId} {args : Array Value} {w : World} {K n : Nat} {v : Value} (h : Calls P f args (w.drewN (K + n)) fun e w' => e = .returned v ∧ w' = w.drewN (K + n)) : Calls P f args (w.drewN (K + n)) fun e w'' => e = .returned v ∧ ∃ n, w'' = w.drewN (K + n) :=
  h.mono fun _ _ ⟨he, hm⟩ => ⟨he, n, hm⟩

theorem Holds.drewN {w : World} {g : Nat} {t : TypeId} {cs : List Value} (h : Holds w g t cs) (n : Nat) : Holds (w.drewN n) g t cs := h

theorem Holds.to {w : World} {g : Nat} {t : TypeId} {cs cs' : List Value} (h : Holds w g t cs) (e : cs = cs') : Holds w g t cs' := e ▸ h

theorem Holds.same {w w' : World} {k : Nat} (e : w'.heap[k]? = w.heap[k]?) (o : Nat) : w'.cell? ⟨k, o, none⟩ = w.cell? ⟨k, o, none⟩ := by simp [World.cell?, e]

theorem Below.drew {B : Nat} {w w' : World} (h : Below B w w') : Below B w w'.drew := ⟨h.os, h.tape, h.output, h.size, h.block⟩

theorem wrap_small {n : Int} (h : 0 ≤ n) (h' : n < 1000000) : IntKind.i64.wrap n = n := by
  simp [IntKind.wrap, IntKind.signed, IntKind.bits]
  omega

theorem Holds.drew {w : World} {g : Nat} {t : TypeId} {cs : List Value} (h : Holds w g t cs) : Holds w.drew g t cs := h

theorem drewN_cell {w : World} {p : Addr} {v : Value} (h : w.cell? p = some v) (n : Nat) : (w.drewN n).cell? p = some v := h

theorem owns_some {w : World} {base : Nat} {e : TypeId} {size n : Nat} {v : Value} {xs : List Value} (h : w.ownsRow base e size v n xs) (hn : 0 < n) :
    ∃ g cap, v = .slice (some ⟨g, 0, none⟩) n cap ∧ base ≤ g ∧ g < w.heap.size ∧ n ≤ cap ∧ cap ≤ maxLen ∧ (∀ j, j < n * size → w.cell? ⟨g, j, none⟩ = xs[j]?) ∧ ∀ j, w.frozen? ⟨g, j, none⟩ = false := by
  rcases h.2 with ⟨h0, h1⟩ | ⟨g, cap, cur, hv, hb, hg, hnc, hcm, hcs, ht⟩
  · omega
  · subst hv
    exact ⟨g, cap, rfl, hb, (Array.getElem?_eq_some_iff.1 hg).1, hnc, hcm, fun j hj => h.cellAt j hj, fun j => h.frozenAt j⟩

theorem owns_form {w : World} {base : Nat} {e : TypeId} {size n : Nat} {v : Value} {xs : List Value} (h : w.ownsRow base e size v n xs) :
    ∃ a cap, v = .slice a n cap ∧ n ≤ cap ∧ cap ≤ maxLen := by
  rcases h.2 with ⟨h0, h1⟩ | ⟨g, cap, cur, hv, hb, hg, hnc, hcm, hcs, ht⟩
  · exact ⟨none, 0, by rw [h0, h1], by omega, by unfold maxLen; omega⟩
  · exact ⟨_, cap, hv, hnc, hcm⟩

theorem below_own_drew {w : World} {base : Nat} {e : TypeId} {size n : Nat} {v : Value} {xs : List Value} (h : w.ownsRow base e size v n xs) (q : Nat) : (w.drewN q).ownsRow base e size v n xs := h

theorem below_drewN' {B : Nat} {a w : World} (h : Below B a w) (q : Nat) : Below B a (w.drewN q) := ⟨h.os, h.tape, h.output, h.size, h.block⟩

end Go.Proofs.YtelanndleinabaaDoor
