/- Rlk, Rnx, All, joined. -/
import Derived.Test.YtpednhcfkjjcpaaRms
section
/- The walk of the reference's Look (printed by mkrlk.py). -/
namespace Go.Proofs.Ytpednhcfkjjcpaa
open Go.RowKit
set_option linter.unusedVariables false
set_option linter.unusedSimpArgs false

/-- The reference reads a state's number as the program does. -/
theorem ref_none {N : PNet} {s : Bs} (h : nums 1099511627776 1 s = none) : nodeOf N s = none := by
  unfold nodeOf
  have : nums 20000 1 s = none := by
    rw [nums] at h ⊢
    cases hd : dec s with
    | ok n k =>
      rw [hd] at h
      simp only at h ⊢
      split at h
      · rw [if_pos (by omega)]
      · rw [nums] at h; cases h
    | _ => rfl
  rw [this]
theorem ref_some {N : PNet} {s : Bs} {ns : List Nat} {l : Bs} (hN : N.length ≤ 20000) (h : nums 1099511627776 1 s = some (ns, l)) : ∃ k, ns = [k] ∧ k ≤ 1099511627776 ∧ nodeOf N s = if l = [] then N[k]? else none := by
  rw [nums] at h
  cases hd : dec s with
  | ok n k =>
    rw [hd] at h
    simp only at h
    split at h
    · cases h
    · rename_i hn
      rw [nums] at h
      simp only [Option.some.injEq, Prod.mk.injEq] at h
      obtain ⟨rfl, rfl⟩ := h
      refine ⟨n, rfl, by omega, ?_⟩
      unfold nodeOf
      rw [nums, hd]
      simp only
      by_cases hl : s.drop k = []
      · rw [if_pos hl, hl]
        by_cases h2 : 20000 < n
        · rw [if_pos h2, List.getElem?_eq_none (by omega)]
        · rw [if_neg h2, nums]
      · rw [if_neg hl]
        obtain ⟨a, r, hr⟩ := List.exists_cons_of_ne_nil hl
        rw [hr]
        by_cases h2 : 20000 < n
        · rw [if_pos h2]
        · rw [if_neg h2, nums]
  | _ => rw [hd] at h; cases h
end Go.Proofs.Ytpednhcfkjjcpaa
end
section
/- The walk of the reference's Next (printed by mkrnx.py). -/
namespace Go.Proofs.Ytpednhcfkjjcpaa
open Go.RowKit
set_option linter.unusedVariables false
set_option linter.unusedSimpArgs false

structure NxO (S : Nat) (w3 : World) (l : List (PArc × Nat)) (vo : Value) (wr : World) : Prop where
  below : Below S w3 wr
  ge : S ≤ w3.heap.size
  row : ∃ fo, wr.ownsRow S 75 9 vo l.length fo ∧ LsF MovF (fun q => S ≤ q ∧ vo.ownBlock ≠ some q) wr l fo
theorem NxO.app {S : Nat} {w3 wr W8 W9 : World} {l : List (PArc × Nat)} {y : PArc × Nat} {vo vo' : Value} {fo c : List Value} {o : Obj} (h : NxO S w3 l vo wr) (hr : wr.ownsRow S 75 9 vo l.length fo) (hfo : LsF MovF (fun q => S ≤ q ∧ vo.ownBlock ≠ some q) wr l fo) (h8 : Below wr.heap.size wr W8) (hy : MovF (fun q => wr.heap.size ≤ q) W8 y c)
    (hown : W9.ownsRow S 75 9 vo' (l.length + 1) (fo ++ c)) (hgr : (W8.alloc o).grownBy W9 vo.ownBlock) (hblk : vo'.ownBlock = vo.ownBlock ∨ vo'.ownBlock = some (W8.alloc o).heap.size) : NxO S w3 (l ++ [y]) vo' W9 := by
  have hg := h.ge
  have hbs := h.below.size
  have hvl := owns_lt hr
  have hvg := owns_ge hr
  have hs8 := h8.size
  have hs9 : W8.heap.size ≤ (W8.alloc o).heap.size := by simp
  have hf9 : Fr (fun q => vo.ownBlock = some q) W8 W9 := ((Fr.refl _ W8).alloc o).grown hgr fun q hq _ => hq
  have hv : ∀ k, k < W8.heap.size → vo.ownBlock ≠ some k → vo'.ownBlock ≠ some k := fun k hk hn he => by
    rcases hblk with hb | hb
    · rw [hb] at he; exact hn he
    · rw [hb] at he; injection he with he; omega
  refine ⟨(h.below.trans (h8.mono (by omega))).trans (hf9.to_below (by omega) fun k hk hor => by have := hvg k hor; omega), h.ge, fo ++ c, by rw [List.length_append]; exact hown, LsF.append ?_ (LsF.sing ?_)⟩
  · have a0 := LsF.mono (fun _ _ => MovF.mono (Wide.in_ (w := wr))) _ hfo
    have a1 := LsF.up (w' := W8) (fun _ _ => oneMov.up fun k hk hs => h8.block k hs) _ a0
    have a2 := LsF.up (w' := W9) (fun _ _ => oneMov.up fun k hk hs => hf9.block k hs hk.1.2) _ a1
    exact LsF.mono (fun _ _ => MovF.mono fun k hk _ => ⟨hk.1.1, hv k (by omega) hk.1.2⟩) _ a2
  · have hne : ∀ k, wr.heap.size ≤ k → vo.ownBlock ≠ some k := fun k hk he => by have := hvl k he; omega
    have a0 := MovF.mono (Wide.in_ (w := W8)) hy
    have a2 := oneMov.up (w' := W9) (fun k hk hs => hf9.block k hs (hne k hk.1)) a0
    exact MovF.mono (fun k hk _ => ⟨by omega, hv k hk.2 (hne k hk.1)⟩) a2
theorem NxO.moves {S base : Nat} {w3 wr : World} {l : List PArc} {vo : Value} (h : NxO S w3 l.zipIdx vo wr) (hb : base ≤ S) : MovesV (From base) wr vo l := by
  obtain ⟨fo, h1, h2⟩ := h.row
  rw [List.length_zipIdx] at h1
  exact ⟨fo, RowL.of_owns h1 fun k hk => Nat.le_trans hb hk, LsF.mono (fun _ _ => MovF.mono fun k hk _ => Nat.le_trans hb hk.1) _ h2⟩
def NextPost (N : PNet) (s : Bs) (w : World) (e : Ending) (w' : World) : Prop := Below w.heap.size w w' ∧ ∃ v, e = .returned v ∧ MovesV (From w.heap.size) w' v ((nodeOf N s).getD zeroN).arcs
theorem info_move : (Try.prog.info? 75).map (fun i => (i.zero.map fun z => z.cells.size, i.size, i.bytes)) = some (some 9, 9, 112) := by kernel_rfl
end Go.Proofs.Ytpednhcfkjjcpaa
end
section
/- The walk of the statements' all: the moves of a state, gathered by a range over the iterator, left early. -/
namespace Go.Proofs.Ytpednhcfkjjcpaa
open Go.RowKit Go.Maps
set_option linter.unusedVariables false
set_option linter.unusedSimpArgs false
attribute [local go_sem] Oper.semAt_some run_makeMap

/-- A move whose rows may be written into. -/
def MovG (P : Nat → Prop) (w : World) (a : PArc × Nat) (c : List Value) : Prop := ∃ vr vw, c = mvC a.2 a.1 (toS a.1) vr vw ∧ (RowL P w 1 vr a.1.reads.length (a.1.reads.map intV) ∧ SI P w vr) ∧ RowL P w 1 vw a.1.writes.length (a.1.writes.map intV) ∧ SI P w vw
theorem MovG.mono {P Q : Nat → Prop} {w : World} (hl : Wide P Q w) {a : PArc × Nat} {c : List Value} (h : MovG P w a c) : MovG Q w a c := by
  obtain ⟨vr, vw, h1, ⟨h2, h2'⟩, h3, h3'⟩ := h
  exact ⟨vr, vw, h1, ⟨h2.mono hl, h2'.mono hl⟩, h3.mono hl, h3'.mono hl⟩
theorem MovG.movF {P : Nat → Prop} {w : World} {a : PArc × Nat} {c : List Value} (h : MovG P w a c) : MovF P w a c := by
  obtain ⟨vr, vw, h1, ⟨h2, _⟩, h3, _⟩ := h
  exact ⟨vr, vw, h1, h2, h3⟩
theorem oneMovG : One MovG 9 := ⟨fun h => oneMov.len h.movF, fun h => oneMov.one h.movF, fun hu ⟨vr, vw, h1, ⟨h2, h2'⟩, h3, h3'⟩ => ⟨vr, vw, h1, ⟨h2.up hu, h2'.up hu⟩, h3.up hu, h3'.up hu⟩⟩
theorem SI.kept {R : Nat → Prop} {w w' : World} {v : Value} {row : Option Nat} (h : SI R w v) (hg : w.grownBy w' row) (hr : ∀ r, row = some r → ∃ o : Obj, w.heap[r]? = some o ∧ o.isCells = false) : SI R w' v :=
  h.imp id fun ⟨g, n, c, cs, h1, h2, h3, h4, h5, h6⟩ => ⟨g, n, c, cs, h1, h2, h3, h4, h5.kept_row hg hr, h6⟩
theorem MovG.kept {P : Nat → Prop} {w w' : World} {a : PArc × Nat} {c : List Value} {row : Option Nat} (hg : w.grownBy w' row) (hr : ∀ r, row = some r → ∃ o : Obj, w.heap[r]? = some o ∧ o.isCells = false) (h : MovG P w a c) : MovG P w' a c := by
  obtain ⟨vr, vw, h1, ⟨h2, h2'⟩, h3, h3'⟩ := h
  exact ⟨vr, vw, h1, ⟨h2.kept hg hr, h2'.kept hg hr⟩, h3.kept hg hr, h3'.kept hg hr⟩
theorem RowX.si {lo : Nat} {w : World} {v : Value} {l : List Int} (h : RowX lo w v l) : SI (From lo) w v := by
  rcases h.1 with rfl | h1
  · exact .inl rfl
  · rcases h1.2 with ⟨h0, _⟩ | ⟨g, cap, cur, rfl, hb, hg, hnc, hcm, hcs, ht⟩
    · exact .inl h0
    · exact .inr ⟨g, _, cap, cur.toList, rfl, hnc, by unfold maxLen at hcm; omega, hb, by unfold Holds; simpa using hg, by rw [Array.length_toList, hcs]; omega⟩
structure AllO (base lo b5 b7 : Nat) (w0 : World) (most : Nat) (l : List (PArc × Nat)) (vo : Value) (W : World) : Prop where
  below : Below base w0 W
  most_ : Holds W b5 3 [.int .i64 (most : Int)]
  box : Holds W b7 28 [vo]
  row : ∃ fo, W.ownsRow lo 75 9 vo l.length fo ∧ LsF MovG (fun q => lo ≤ q ∧ vo.ownBlock ≠ some q) W l fo
  lts : base ≤ b5 ∧ b5 < lo ∧ base ≤ b7 ∧ b7 < lo ∧ lo ≤ W.heap.size ∧ base ≤ w0.heap.size
section
variable {base lo b5 b7 : Nat} {w0 W W' : World} {most : Nat} {l : List (PArc × Nat)} {vo : Value}
theorem AllO.fresh (h : AllO base lo b5 b7 w0 most l vo W) (hb : Below W.heap.size W W') : AllO base lo b5 b7 w0 most l vo W' := by
  obtain ⟨fo, h1, h2⟩ := h.row
  have hl := h.lts
  exact ⟨h.below.trans (hb.mono (by omega)), h.most_.belowAll hb, h.box.belowAll hb, ⟨fo, owns_below h1 hb, LsF.up (fun _ _ => oneMovG.up (Keep.below hb)) _ h2⟩, by have := hb.size; omega⟩
theorem AllO.kept (h : AllO base lo b5 b7 w0 most l vo W) {row : Option Nat} (hg : W.grownBy W' row) (hr : ∀ r, row = some r → lo ≤ r ∧ ∃ o : Obj, W.heap[r]? = some o ∧ o.isCells = false) : AllO base lo b5 b7 w0 most l vo W' := by
  obtain ⟨fo, h1, h2⟩ := h.row
  have hl := h.lts
  have hr2 : ∀ r, row = some r → ∃ o : Obj, W.heap[r]? = some o ∧ o.isCells = false := fun r e => (hr r e).2
  exact ⟨h.below.grown hg (by have := h.below.size; omega) fun k hk => by have := (hr k hk).1; omega, h.most_.kept_row hg hr2, h.box.kept_row hg hr2, ⟨fo, owns_kept h1 hg hr2, LsF.up (fun _ _ => MovG.kept hg hr2) _ h2⟩, by have := hg.size; omega⟩
theorem AllO.app {y : PArc × Nat} {vo' : Value} {fo c : List Value} {W4 W5 : World} {o : Obj} (h : AllO base lo b5 b7 w0 most l vo W) (hr : W.ownsRow lo 75 9 vo l.length fo) (hfo : LsF MovG (fun q => lo ≤ q ∧ vo.ownBlock ≠ some q) W l fo) (hy : MovG (fun q => lo ≤ q ∧ vo.ownBlock ≠ some q) W y c)
    (hown : W4.ownsRow lo 75 9 vo' (l.length + 1) (fo ++ c)) (hgr : (W.alloc o).grownBy W4 vo.ownBlock) (hblk : vo'.ownBlock = vo.ownBlock ∨ vo'.ownBlock = some (W.alloc o).heap.size) (hW : W5 = setR W4 b7 0 [vo']) : AllO base lo b5 b7 w0 most (l ++ [y]) vo' W5 ∧ Turns lo W W5 := by
  have hl := h.lts
  have hvl := owns_lt hr
  have hvg := owns_ge hr
  have hs9 : W.heap.size ≤ (W.alloc o).heap.size := by simp
  have hf4 : Fr (fun q => vo.ownBlock = some q) W W4 := ((Fr.refl _ W).alloc o).grown hgr fun q hq _ => hq
  have hf5 : Fr (fun q => q = b7) W4 W5 := by rw [hW]; exact Fr.setRX _ _ 0 _
  have hf : Fr (fun q => q = b7 ∨ vo.ownBlock = some q) W W5 := (hf4.mono fun _ _ h => .inr h).trans hf5 fun q _ hq => .inl hq
  have hb4 : Holds W4 b7 28 [vo] := hf4.holds h.box (owns_ne_holds hr h.box (by decide))
  have hv : ∀ k, k < W.heap.size → vo.ownBlock ≠ some k → vo'.ownBlock ≠ some k := fun k hk hn he => by
    rcases hblk with hb | hb
    · rw [hb] at he; exact hn he
    · rw [hb] at he; injection he with he; omega
  refine ⟨⟨h.below.trans (hf.to_below (by omega) fun k hk hor => ?_), hf.holds h.most_ fun hor => ?_, hb4.stored hW (Nat.le_refl _), ⟨fo ++ c, by rw [List.length_append]; exact hf5.owns hown fun g hgg he => owns_ne_holds hown hb4 (by decide) (by rw [← he]; exact hgg), ?_⟩, by have := hf.size; omega⟩, Turns.of hf fun k hk => ?_⟩
  · rcases hor with rfl | hor
    · omega
    · have := hvg k hor; omega
  · rcases hor with hor | hor
    · exact h.most_.ne_of_type h.box (by decide) hor
    · exact owns_ne_holds hr h.most_ (by decide) hor
  · have a0 := LsF.mono (fun _ _ => MovG.mono (Wide.in_ (w := W))) _ (LsF.append hfo (LsF.sing hy))
    have a2 := LsF.up (w' := W5) (fun _ _ => oneMovG.up fun k hk hs => hf.block k hs fun hor => hor.elim (fun e => by have := hk.1.1; omega) hk.1.2) _ a0
    exact LsF.mono (fun _ _ => MovG.mono fun k hk _ => ⟨hk.1.1, hv k hk.2 hk.1.2⟩) _ a2
  · rcases hk with rfl | hk
    · exact .inl ⟨_, _, h.box⟩
    · obtain ⟨cs, hh⟩ := owns_holds hr hk
      exact .inl ⟨_, _, hh⟩
end
/-- What holds behind the j-th round; what a body begins with. -/
def RngL (base lo b5 b7 : Nat) (w0 : World) (most : Nat) (l : List PArc) (j : Nat) (W : World) : Prop := ∃ vo, AllO base lo b5 b7 w0 most (l.zipIdx.take j) vo W ∧ j ≤ l.length ∧ j ≤ most
def RngB (base lo b5 b7 : Nat) (w0 : World) (most : Nat) (l : List PArc) (j b8 : Nat) (W : World) : Prop := ∃ (hj : j < l.length) (vo vr vw : Value), AllO base lo b5 b7 w0 most (l.zipIdx.take j) vo W ∧ j ≤ most ∧ Holds W b8 75 (mvC j l[j] (toS l[j]) vr vw) ∧ MovG (fun q => lo ≤ q ∧ vo.ownBlock ≠ some q) W (l[j], j) (mvC j l[j] (toS l[j]) vr vw)
theorem RngL.kept {base lo b5 b7 : Nat} {w0 W W' : World} {most j : Nat} {l : List PArc} {row : Option Nat} (h : RngL base lo b5 b7 w0 most l j W) (hg : W.grownBy W' row) (hr : ∀ r, row = some r → lo ≤ r ∧ ∃ o : Obj, W.heap[r]? = some o ∧ o.isCells = false) : RngL base lo b5 b7 w0 most l j W' := by
  obtain ⟨vo, h1, h2⟩ := h
  exact ⟨vo, h1.kept hg hr, h2⟩
theorem RngB.kept {base lo b5 b7 b8 : Nat} {w0 W W' : World} {most j : Nat} {l : List PArc} {row : Option Nat} (h : RngB base lo b5 b7 w0 most l j b8 W) (hg : W.grownBy W' row) (hr : ∀ r, row = some r → lo ≤ r ∧ ∃ o : Obj, W.heap[r]? = some o ∧ o.isCells = false) : RngB base lo b5 b7 w0 most l j b8 W' := by
  obtain ⟨hj, vo, vr, vw, h1, h2, h3, h4⟩ := h
  exact ⟨hj, vo, vr, vw, h1.kept hg hr, h2, h3.kept_row hg fun r e => (hr r e).2, MovG.kept hg (fun r e => (hr r e).2) h4⟩
theorem RngB.start {base lo b5 b7 b8 : Nat} {w0 W0 W W' : World} {most j : Nat} {l : List PArc} {vr vw : Value} (h : RngL base lo b5 b7 w0 most l j W0) (hb : Tol lo W0 W) (hj : j < l.length) (hr : RowX W0.heap.size W vr l[j].reads) (hw : RowX W0.heap.size W vw l[j].writes) (hb2 : Below W.heap.size W W') (h8 : Holds W' b8 75 (mvC j l[j] (toS l[j]) vr vw)) : RngB base lo b5 b7 w0 most l j b8 W' := by
  obtain ⟨vo, h1, h2, h3⟩ := h
  obtain ⟨fo, k1, _⟩ := h1.row
  have hlts := h1.lts
  have hwide : Wide (From W0.heap.size) (fun q => lo ≤ q ∧ vo.ownBlock ≠ some q) W' := fun k hk _ => ⟨by have : W0.heap.size ≤ k := hk; omega, fun e => by have := owns_lt k1 k e; have : W0.heap.size ≤ k := hk; omega⟩
  have hr2 := hr.below hb2
  have hw2 := hw.below hb2
  exact ⟨hj, vo, vr, vw, ((hb (fun W => AllO base lo b5 b7 w0 most (l.zipIdx.take j) vo W) (fun _ A C row hs hg hr => hs.kept hg hr) h1).fresh hb2), h3, h8, ⟨vr, vw, rfl, ⟨hr2.2.mono hwide, hr2.si.mono hwide⟩, hw2.2.mono hwide, hw2.si.mono hwide⟩⟩
end Go.Proofs.Ytpednhcfkjjcpaa
end
