/- Rng, Iter, joined. -/
import Derived.Test.YtcopoaaofjeklaaNode
import Derived.RangeFuncNested
import Derived.RangeFuncLeaves
import Derived.TacticsInMore
import Derived.OwnWalkIn
import Derived.LoopIn
section
/- A range over a function whose iterator tells the round what it hands over (memory that it has just laid): the library's law wpIn_rangeFunc_ownH, turned in one place. -/
namespace Go.Proofs.Ytcopoaaofjeklaa
open Go.RowKit
set_option linter.unusedVariables false
variable {F : Fence} {n : Nat} {P : Program} {w : World}

/-- An iterator's contract where it tells what it hands over: W0 is the world behind the last round. -/
def SeqTells {α : Type} (F : Fence) (n : Nat) (P : Program) (g : Nat) (lb : Array Value) (encs : α → Array Value) (Kp : World → World → Prop) (G : List α → α → World → World → Prop) (S Sp : List α → Prop) (N : Nat) (w : World) : Prop :=
  ∀ (l : Nat) (J Jx : List α → World → Prop) (W : World), Below w.heap.size w W → AbidesFrom W.heap.size J → AbidesFrom W.heap.size Jx →
    (∀ pre x W0 W1, J pre W0 → Below W0.heap.size W0 W1 → J pre W1 → G pre x W0 W1 → pre.length < N → YieldAt F (n - 1) P l (encs x) W1 fun e W' =>
      (e = .returned (.bool true) ∧ J (pre ++ [x]) W' ∧ Kp W1 W') ∨ (e = .returned (.bool false) ∧ Jx (pre ++ [x]) W')) →
    J [] W →
    CallsIn F n P g (#[.func (.yield l) #[] #[]] ++ lb) W fun e W' => (∃ v, e = .returned v) ∧ ((∃ xs, S xs ∧ J xs W') ∨ (∃ pre, Sp pre ∧ Jx pre W'))

theorem wpIn_rangeFunc_tells {α : Type} {g : Operand} {ps : Array Tmp} {assign body : Code} {Q : Exit → Act → World → Prop} {a : Act} {w : World}
    (hro : F.round = none) (h1 : 1 ≤ n) {gf : Nat} {lb : Array Value} (hg : a.eval g = .func (.func gf) #[] lb) (hFg : F.fn gf) (eg : ∀ args w, (callFunc gf args).run P w = .ok (.enter gf args) w)
    {encs : α → Array Value} {Kp : World → World → Prop} {S Sp : List α → Prop} {N : Nat} {w0 : World} 
    (hKt : ∀ {A B C : World}, Kp A B → Kp B C → Kp A C) (hKb : ∀ (W : World) (l : Nat) (o o' : Obj), w.heap.size ≤ l → W.heap[l]? = some o → o.isCells = false → o.isWalk = false → Kp W (W.putObj l o')) (hb0 : Below w0.heap.size w0 w) (hps : ∀ x, (encs x).size = ps.size)
    {G : List α → α → World → World → Prop} (I : List α → World → Prop) (hseq : SeqTells F (n - 1) P gf lb encs Kp G S Sp N w0) (Ix : Code → List α → World → Prop) (hI : OwnFrom w.heap.size I) (hIx : ∀ c, OwnFrom w.heap.size (Ix c)) (h0 : I [] w) (Ax : List α → α → Act → World → Prop) (hAx : ∀ pre x a', OwnFrom w.heap.size (fun (_ : Unit) W => Ax pre x a' W))
    (hassign : ∀ (l : Nat) (pre : List α) (x : α) (W0 W : World) (K : Act → World → Prop), I pre W0 → Below W0.heap.size W0 W → I pre W → G pre x W0 W → (∀ a' W', KeepsFrom w.heap.size W W' → Kp W W' → I pre W' → Ax pre x a' W' → K a' W') →
      assign.wpIn (F.inRound l) (n - 1 - 1) P (Exit.then K (fun _ _ _ => False)) { tmps := (ps.zip (encs x)).foldl (fun t (p, v) => t.setIfInBounds p v) a.tmps, defers := [] } W)
    (hbody : ∀ (l : Nat) (pre : List α) (x : α) (a' : Act) (W : World), w.heap.size ≤ l → (∃ r, W.heap[l]? = some (.loop r)) → I pre W → Ax pre x a' W → pre.length < N → body.wpIn (F.inRound l) (n - 1 - 1) P (ownPostG w.heap.size Kp I Ix (pre ++ [x]) W) a' W)
    (hdone : ∀ (D : Nat) (xs : List α) (W : World), w.heap.size ≤ D → S xs → I xs W → W.heap[D]? = some (.deferred (some [])) → Q .normal { a with defers := { target := .collected D, args := #[] } :: a.defers } W)
    (hstop : ∀ (D : Nat) (c : Code) (pre : List α) (W : World), w.heap.size ≤ D → Sp pre → Ix c pre W → W.heap[D]? = some (.deferred (some [])) → c.wpIn F n P Q { a with defers := { target := .collected D, args := #[] } :: a.defers } W) :
    (Code.rangeFunc g ps assign body).wpIn F n P Q a w := by
  refine wpIn_rangeFunc ?_
  intro fn hfn
  rw [hro]
  obtain ⟨rec, hrec⟩ : ∃ rec : LoopState → Option Code → Loop, rec = fun st pe => { state := st, pending := pe, fn, tmps := a.tmps, params := ps, assign, body, defers := w.heap.size } := ⟨_, rfl⟩
  obtain ⟨W1, hW1⟩ : ∃ W1, (w.alloc (.deferred (some []))).alloc (.loop (rec .ready none)) = W1 := ⟨_, rfl⟩
  have hL1 : W1.heap[w.heap.size + 1]? = some (.loop (rec .ready none)) := by
    rw [← hW1]; have := World.alloc_heap_new (w.alloc (.deferred (some []))) (.loop (rec .ready none)); rwa [World.size_alloc] at this
  have hK1 : W1.heap[w.heap.size]? = some (.deferred (some [])) := by
    rw [← hW1]; exact (Below.heap_alloc _ _ _ (by simp)).trans (World.alloc_heap_new w _)
  have hI1 : I [] W1 := by rw [← hW1]; exact hI.alloc _ (hI.alloc _ h0)
  have hb1 : Below w0.heap.size w0 W1 := by
    rw [← hW1]; exact hb0.trans ((((Below.refl _ w).alloc (Nat.le_refl _) _).alloc (by simp) _).mono hb0.size)
  refine ⟨w.heap.size + 1, [{ target := .collected w.heap.size, args := #[] }], W1, { target := .fn (.func gf) lb, args := #[.func (.yield (w.heap.size + 1)) #[] #[]] }, W1, gf,
    #[.func (.yield (w.heap.size + 1)) #[] #[]] ++ lb, W1, ?_, ?_, ?_, ?_, fun _ => h1, ?_⟩
  · rw [← hW1, hrec]; exact run_enterLoop_outer _ _ _ _ _
  · simp only [resolve, hg]
    simp [go_sem]
  · intro f' hf'; simp [Target.leads] at hf'; subst hf'; exact hFg
  · simp [invoke, go_sem, eg]
  · -- THE ITERATOR's CONTRACT, AT THE CALLER's INVARIANT WITH THE TWO FACTS OF BOOK-KEEPING BESIDE IT
    have hnw : ∀ {A B : World} {row : Option Nat}, (∀ r, row = some r → W1.heap.size ≤ r ∧ ∃ o : Obj, A.heap[r]? = some o ∧ o.isWalk = true) → (∀ r, row = some r → w.heap.size ≤ r ∧ ∃ o : Obj, A.heap[r]? = some o ∧ o.isCells = false) :=
      fun hr r e => by obtain ⟨hB, o, ho, hw⟩ := hr r e; exact ⟨by rw [← hW1] at hB; simp at hB; omega, o, ho, Obj.not_cells_of_walk hw⟩
    refine (hseq (w.heap.size + 1)
      (fun pre W => I pre W ∧ W.heap[w.heap.size + 1]? = some (.loop (rec .ready none)) ∧ W.heap[w.heap.size]? = some (.deferred (some [])))
      (fun pre W => ∃ c, Ix c pre W ∧ W.heap[w.heap.size + 1]? = some (.loop (rec .done (some c))) ∧ W.heap[w.heap.size]? = some (.deferred (some [])))
      W1 hb1
      (fun s A B row hs hg' hr => ⟨hI s A B row hs.1 hg' (hnw (B := B) hr), (grownBy_keeps hg' (fun r e => (hr r e).2) hs.2.1 rfl).trans hs.2.1, (grownBy_keeps hg' (fun r e => (hr r e).2) hs.2.2 rfl).trans hs.2.2⟩)
      (fun s A B row hs hg' hr => by
        obtain ⟨c, hc, hl, hk⟩ := hs
        exact ⟨c, hIx c s A B row hc hg' (hnw (B := B) hr), (grownBy_keeps hg' (fun r e => (hr r e).2) hl rfl).trans hl, (grownBy_keeps hg' (fun r e => (hr r e).2) hk rfl).trans hk⟩)
      ?_ ⟨hI1, hL1, hK1⟩).mono ?_
    · -- ONE ROUND
      rintro pre x W0 W ⟨hi0, hl0, hk0⟩ hb01 ⟨hi, hl, hk⟩ hG hlen
      have hlt : w.heap.size + 1 < W.heap.size := (Array.getElem?_eq_some_iff.1 hl).1
      have hy := run_yield (P := P) (args := encs x) hl (by rw [hrec]; exact hps x)
      rw [hrec] at hy
      refine ⟨fn, _, assign, body, hy, roundIn_of_wpIn hfn (hassign _ pre x W0 W _ hi0 hb01 hi hG ?_)⟩
      clear hy hG hb01 hi0 hl0 hk0
      intro a' Wa hkfa hkpa hia hax
      -- THE ASSIGN CODE MAY HAVE LAID BLOCKS (a loop variable that an inner function captures is boxed): the two blocks of book-keeping lie as they lay
      replace hl := hkfa.same _ _ (by omega) hl rfl
      replace hk := hkfa.same _ _ (Nat.le_refl _) hk rfl
      replace hlt : w.heap.size + 1 < Wa.heap.size := (Array.getElem?_eq_some_iff.1 hl).1
      replace hi := hia
      clear hia
      revert hkpa hkfa
      generalize W = Wb
      intro hkfa hkpa
      obtain ⟨W, rfl⟩ : ∃ W, W = Wa := ⟨_, rfl⟩
      refine ⟨_, run_beginRound hl (by rw [hrec]), ?_⟩
      have hl2 : (W.putObj (w.heap.size + 1) (.loop { rec .ready none with state := .busy })).heap[w.heap.size + 1]? = some (.loop { rec .ready none with state := .busy }) := World.putObj_heap_same hlt
      have hk2 : (W.putObj (w.heap.size + 1) (.loop { rec .ready none with state := .busy })).heap[w.heap.size]? = some (.deferred (some [])) := (World.putObj_heap_other (by omega)).trans hk
      have hw2 : Kp W (W.putObj (w.heap.size + 1) (.loop { rec .ready none with state := .busy })) := hKb _ _ _ _ (by omega) hl rfl rfl
      refine wpIn_mono (hbody _ pre x a' _ (by omega) ⟨_, hl2⟩ (hI.putObj _ hi (by omega) hl rfl) ((hAx pre x a').putObj (s := ()) _ hax (by omega) hl rfl) hlen) ?_
      have fin : ∀ (jump : Option Code) (W3 : World), KeepsFrom w.heap.size (W.putObj (w.heap.size + 1) (.loop { rec .ready none with state := .busy })) W3 →
          (Instr.endRound (w.heap.size + 1) jump).run P W3 = .ok (.bool jump.isNone) (W3.putObj (w.heap.size + 1) (.loop (rec (if jump.isNone then .ready else .done) jump))) ∧
          W3.heap[w.heap.size + 1]? = some (.loop { rec .ready none with state := .busy }) ∧
          (W3.putObj (w.heap.size + 1) (.loop (rec (if jump.isNone then .ready else .done) jump))).heap[w.heap.size + 1]? = some (.loop (rec (if jump.isNone then .ready else .done) jump)) ∧
          (W3.putObj (w.heap.size + 1) (.loop (rec (if jump.isNone then .ready else .done) jump))).heap[w.heap.size]? = some (.deferred (some [])) := fun jump W3 hk3 => by
        have hl3 := hk3.same _ _ (by omega) hl2 rfl
        have := run_endRound (P := P) jump hl3
        rw [hrec] at this ⊢
        exact ⟨this, by rw [hrec] at hl3; exact hl3, World.putObj_heap_same (Array.getElem?_eq_some_iff.1 hl3).1, (World.putObj_heap_other (by omega)).trans (hk3.same _ _ (Nat.le_refl _) hk2 rfl)⟩
      rintro e a3 W3 hp
      cases e with
      | normal =>
        obtain ⟨hk3, hkp3, hi3⟩ := hp
        obtain ⟨hr, hl3, hl4, hk4⟩ := fin none W3 hk3
        exact ⟨_, _, hr, .inl ⟨rfl, ⟨hI.putObj _ hi3 (by omega) hl3 rfl, hl4, hk4⟩, hKt hkpa (hKt (hKt hw2 hkp3) (hKb _ _ _ _ (by omega) hl3 rfl rfl))⟩⟩
      | ret =>
        obtain ⟨hk3, hi3⟩ := hp
        obtain ⟨hr, hl3, hl4, hk4⟩ := fin (some .ret) W3 hk3
        exact ⟨_, _, hr, .inr ⟨rfl, .ret, (hIx _).putObj _ hi3 (by omega) hl3 rfl, hl4, hk4⟩⟩
      | exit id =>
        obtain ⟨hk3, hi3⟩ := hp
        obtain ⟨hr, hl3, hl4, hk4⟩ := fin (some (.exit id)) W3 hk3
        exact ⟨_, _, hr, .inr ⟨rfl, .exit id, (hIx _).putObj _ hi3 (by omega) hl3 rfl, hl4, hk4⟩⟩
      | goto t =>
        obtain ⟨hk3, hi3⟩ := hp
        obtain ⟨hr, hl3, hl4, hk4⟩ := fin (some (.goto t)) W3 hk3
        exact ⟨_, _, hr, .inr ⟨rfl, .goto t, (hIx _).putObj _ hi3 (by omega) hl3 rfl, hl4, hk4⟩⟩
      | panic ch => exact hp.elim
      | outgrown => exact hp.elim
    · -- BEHIND THE ITERATOR
      rintro e W2 ⟨⟨v, rfl⟩, (⟨xs, hS, hi, hl, hk⟩ | ⟨pre, hSp, c, hi, hl, hk⟩)⟩
      · exact ⟨none, _, by have := run_endLoop (P := P) hl (by rw [hrec]; simp); rw [hrec] at this; exact this, hdone _ xs _ (Nat.le_refl _) hS (hI.putObj _ hi (by omega) hl rfl) ((World.putObj_heap_other (by omega)).trans hk)⟩
      · exact ⟨some c, _, by have := run_endLoop (P := P) hl (by rw [hrec]; simp); rw [hrec] at this; exact this, hstop _ c pre _ (Nat.le_refl _) hSp ((hIx c).putObj _ hi (by omega) hl rfl) ((World.putObj_heap_other (by omega)).trans hk)⟩


end Go.Proofs.Ytcopoaaofjeklaa
end
section
/- The walk of graph.Next's iterator (printed by mkiter.py). -/
namespace Go.Proofs.Ytcopoaaofjeklaa
open Go.RowKit
set_option linter.unusedVariables false
set_option linter.unusedSimpArgs false
attribute [local go_sem] Oper.semAt_some

/-- A row of numbers of the callee's own. -/
def RowX (lo : Nat) (w : World) (v : Value) (l : List Int) : Prop := (v = .slice none 0 0 ∨ w.ownsRow lo 3 1 v l.length (l.map intV)) ∧ RowL (From lo) w 1 v l.length (l.map intV)
theorem RowX.below {lo : Nat} {w w' : World} {v : Value} {l : List Int} (h : RowX lo w v l) (hb : Below w.heap.size w w') : RowX lo w' v l := ⟨h.1.imp id fun h => owns_below h hb, h.2.up (Keep.below hb)⟩
def toS (a : PArc) : ByteArray := if a.bad = 0 then ⟨(enc a.to.toNat).toArray⟩ else ⟨#[]⟩
def mvC (k : Nat) (a : PArc) (s : ByteArray) (vr vw : Value) : List Value := [.int .i64 a.proc, .int .i64 (k : Int), .int .i64 (-1), .int .i64 (-1), .string s, .int .i64 a.bad, vr, vw, .int .u64 (a.turns : Int)]
/-- What the iterator hands over in its round k. -/
def Tells (l : List PArc) (pre : List Value) (x : Value) (W0 W : World) : Prop := ∃ (h : pre.length < l.length) (vr vw : Value), x = .agg (mvC pre.length l[pre.length] (toS l[pre.length]) vr vw).toArray ∧ RowX W0.heap.size W vr l[pre.length].reads ∧ RowX W0.heap.size W vw l[pre.length].writes
theorem abide_below {α : Type} {B : Nat} {J : List α → World → Prop} (h : AbidesFrom B J) {s : List α} {w w' : World} (hb : Below w.heap.size w w') (hj : J s w) : J s w' := h s w w' none hj ⟨hb.os, hb.tape, hb.output, hb.size, fun k hk _ => hb.block k hk⟩ (fun r e => by cases e)
theorem nodeOf_mem {N : PNet} {s : Bs} {x : PNode} (h : nodeOf N s = some x) : ∃ (k : Nat) (hk : k < N.length), N[k] = x := by
  unfold nodeOf at h
  split at h
  · obtain ⟨hk, he⟩ := List.getElem?_eq_some_iff.1 h
    exact ⟨_, hk, he⟩
  · cases h
theorem nodeOf_small {N : PNet} (hs : Small N) (s : Bs) : ((nodeOf N s).getD zeroN).arcs.length ≤ 2000000 := by
  cases h : nodeOf N s with
  | none => exact Nat.zero_le _
  | some x =>
    obtain ⟨k, hk, rfl⟩ := nodeOf_mem h
    have := node_le hk
    have := hs.arcs
    simp only [Option.getD_some]
    omega
theorem nodeOf_rows {N : PNet} (hs : Small N) {s : Bs} {k : Nat} (hk : k < ((nodeOf N s).getD zeroN).arcs.length) : ((nodeOf N s).getD zeroN).arcs[k].reads.length ≤ 2000000 ∧ ((nodeOf N s).getD zeroN).arcs[k].writes.length ≤ 2000000 := by
  revert hk
  cases h : nodeOf N s with
  | none => intro hk; exact absurd hk (Nat.not_lt_zero _)
  | some x =>
    obtain ⟨i, hi, rfl⟩ := nodeOf_mem h
    intro hk
    exact hs.reads i hi k hk
theorem nodeOf_to {N : PNet} (hs : ∀ x ∈ N, ∀ a ∈ x.arcs, 0 ≤ a.to ∧ a.to < 9223372036854775808) {s : Bs} {k : Nat} (hk : k < ((nodeOf N s).getD zeroN).arcs.length) : 0 ≤ ((nodeOf N s).getD zeroN).arcs[k].to ∧ ((nodeOf N s).getD zeroN).arcs[k].to < 9223372036854775808 := by
  revert hk
  cases h : nodeOf N s with
  | none => intro hk; exact absurd hk (Nat.not_lt_zero _)
  | some x =>
    obtain ⟨i, hi, rfl⟩ := nodeOf_mem h
    intro hk
    exact hs _ (List.getElem_mem hi) _ (List.getElem_mem hk)
theorem owns_wide {w : World} {b b' sz n : Nat} {t : TypeId} {v : Value} {xs : List Value} (h : w.ownsRow b t sz v n xs) (hb : b' ≤ b) : w.ownsRow b' t sz v n xs := ⟨h.1, h.2.imp id fun ⟨g, cap, cur, hv, hg, rest⟩ => ⟨g, cap, cur, hv, Nat.le_trans hb hg, rest⟩⟩
theorem RowX.clone {w w' : World} {v : Value} {l : List Int} {b : Nat} (h : v = .slice none 0 0 ∨ w'.ownsRow w.heap.size 3 1 v l.length (l.map intV)) (h2 : RowL (From w.heap.size) w' 1 v l.length (l.map intV)) (hb : b ≤ w.heap.size) : RowX b w' v l := ⟨h.imp id fun h => owns_wide h hb, h2.mono (Wide.from hb)⟩
theorem RowX.wide {lo lo' : Nat} {w : World} {v : Value} {l : List Int} (h : RowX lo w v l) (hb : lo' ≤ lo) : RowX lo' w v l := ⟨h.1.imp id fun h => owns_wide h hb, h.2.mono (Wide.from hb)⟩
theorem sz_Str : (Try.prog.info? 9).map (·.size) = some 1 := by kernel_rfl
theorem RowX.cells {lo : Nat} {w : World} {v : Value} {l : List Int} (h : RowX lo w v l) : v.cells = #[v] := by
  obtain ⟨_, _, rfl, _⟩ := h.2.form
  rfl
theorem RowX.store {lo X : Nat} {w w' : World} {v : Value} {l : List Int} {cs : List Value} (h : RowX lo w v l) (hx : Holds w X 44 cs) (hf : Fr (fun q => q = X) w w') : RowX lo w' v l := by
  rcases h.1 with rfl | ho
  · refine ⟨.inl rfl, ?_⟩
    obtain ⟨a, c, h1, _⟩ := h.2.form
    injection h1 with _ h1 _
    obtain rfl : l = [] := List.eq_nil_of_length_eq_zero h1.symm
    exact RowL.nil _ _ _
  · have ho2 := hf.owns ho fun g hg e => owns_ne_holds ho hx (by decide) (by rw [hg, e])
    exact ⟨.inr ho2, RowL.of_owns ho2 fun _ h => h⟩
/-- What region 4 keeps. -/
structure ItW (w7 : World) (a : PArc) (k : Nat) (r : Value × Value × Nat) (L : Array Bool) (w2 : World) : Prop where
  below : Below w7.heap.size w7 w2
  reads : L.getD 7 false = true → RowX w7.heap.size w2 r.1 a.reads
  writes : L.getD 10 false = true → RowX w7.heap.size w2 r.2.1 a.writes
  box : L.getD 14 false = true → w7.heap.size ≤ r.2.2 ∧ Holds w2 r.2.2 44 (if L.getD 15 false then mvC k a ⟨#[]⟩ r.1 r.2.1 else [.int .i64 0, .int .i64 0, .int .i64 0, .int .i64 0, .string ⟨#[]⟩, .int .i64 0, .slice none 0 0, .slice none 0 0, .int .u64 0])
  o13 : L.getD 13 false = true → L.getD 7 false = true ∧ L.getD 10 false = true
  o15 : L.getD 15 false = true → L.getD 7 false = true ∧ L.getD 10 false = true ∧ L.getD 14 false = true
theorem ItW.pure {w7 w2 : World} {a : PArc} {k : Nat} {r : Value × Value × Nat} {L : Array Bool} (i : Nat) (h7 : i ≠ 7) (h10 : i ≠ 10) (h13 : i ≠ 13) (h14 : i ≠ 14) (h15 : i ≠ 15) (h : ItW w7 a k r L w2) : ItW w7 a k r (L.setIfInBounds i true) w2 := by
  refine ⟨h.below, ?_, ?_, ?_, ?_, ?_⟩
  · rw [gd_ne h7.symm]; exact h.reads
  · rw [gd_ne h10.symm]; exact h.writes
  · rw [gd_ne h14.symm, gd_ne h15.symm]; exact h.box
  · rw [gd_ne h7.symm, gd_ne h10.symm, gd_ne h13.symm]; exact h.o13
  · rw [gd_ne h7.symm, gd_ne h10.symm, gd_ne h14.symm, gd_ne h15.symm]; exact h.o15
theorem no_depth {n : Nat} : Fence.wide.depth.isSome = true → 1 ≤ n := fun h => by simp [Fence.wide] at h
section
variable {F : Fence} {n : Nat} {P : Program} {W : World} {ops : Array Oper} {rest : List Oper} {o : Oper} {a : Act} {Q : Exit → Act → World → Prop} {t : TypeId} {cs : List Value}
theorem wpListIn_storeB (hgd : o.guard = none) (ty : TypeId) (x y : Operand) (ho : o.op = .store ty x y) (b i : Nat) (xs : List Value) (hx : a.eval x = .pointer (some ⟨b, i, none⟩)) (hy : a.eval y = .agg xs.toArray)
    (h : Holds W b t cs) (hl : i + xs.length ≤ cs.length) (hi : (P.info? ty).map (·.size) = some xs.length) (h1 : xs.all (·.oneCell') = true)
    (hk : Named (setR W b i xs) fun w' => wpListIn F n P ops Q rest (a.put o.dst undef) w') : wpListIn F n P ops Q (o :: rest) a W := by
  refine wpListIn_plain hgd fun K hK => ?_
  unfold Oper.wpIn
  refine ⟨by simp [Oper.about, ho], ?_⟩
  rw [Oper.semAt_plain F _ _ (by rw [ho]; intro c hc'; cases hc')]
  unfold execOp
  simp only [ho, hx, hy, Sem.run_bind, Sem.run_pure, Result.andThen_ok, storeN h hl hi h1]
  exact hK _ _ (hk _ rfl)
theorem wpListIn_store1 (hgd : o.guard = none) (ty : TypeId) (x y : Operand) (ho : o.op = .store ty x y) (b i : Nat) (v : Value) (hx : a.eval x = .pointer (some ⟨b, i, none⟩)) (hy : a.eval y = v)
    (h : Holds W b t cs) (hl : i < cs.length) (hi : (P.info? ty).map (·.size) = some 1) (hv : v.cells = #[v]) (h1 : v.oneCell' = true)
    (hk : Named (setR W b i [v]) fun w' => wpListIn F n P ops Q rest (a.put o.dst undef) w') : wpListIn F n P ops Q (o :: rest) a W := by
  refine wpListIn_plain hgd fun K hK => ?_
  unfold Oper.wpIn
  refine ⟨by simp [Oper.about, ho], ?_⟩
  rw [Oper.semAt_plain F _ _ (by rw [ho]; intro c hc'; cases hc')]
  unfold execOp
  simp only [ho, hx, hy, Sem.run_bind, Sem.run_pure, Result.andThen_ok, store1 h hl hi hv h1]
  exact hK _ _ (hk _ rfl)
theorem wpListIn_load_mid (hgd : o.guard = none) (ty : TypeId) (x : Operand) (ho : o.op = .load ty x) (b i : Nat) (hx : a.eval x = .pointer (some ⟨b, i, none⟩)) (xs : List Value) (d : TypeDesc) (hc : W.rangeAt b i xs)
    (hu : P.underlying ty = some d) (hd : d.isRow = true) (hi : (P.info? ty).map (·.size) = some xs.length)
    (h : wpListIn F n P ops Q rest (a.put o.dst (.agg xs.toArray)) W) : wpListIn F n P ops Q (o :: rest) a W := by
  refine wpListIn_plain hgd fun K hK => ?_
  unfold Oper.wpIn
  refine ⟨by simp [Oper.about, ho], ?_⟩
  rw [Oper.semAt_plain F _ _ (by rw [ho]; intro c hc'; cases hc')]
  have hl := run_loadAt_mid (P := P) W b i ty xs d hc hu hd hi
  unfold execOp
  simp only [ho, hx, Sem.run_bind, Sem.run_pure, Result.andThen_ok, hl]
  exact hK _ _ h
end
end Go.Proofs.Ytcopoaaofjeklaa
end
