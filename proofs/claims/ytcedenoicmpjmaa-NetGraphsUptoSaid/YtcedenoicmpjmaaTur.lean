/- What lies in memory while arcs are turned. -/
import Derived.Test.YtcedenoicmpjmaaTrn
import Derived.Test.YtcedenoicmpjmaaAgn
namespace Go.Proofs.Ytcedenoicmpjmaa
open Go.RowKit
set_option linter.unusedVariables false
set_option linter.unusedSimpArgs false

structure TurO (S b : Nat) (w2 : World) (l : PNet) (vt : Value) (wr : World) : Prop where
  below : Below S w2 wr
  ge : S ≤ w2.heap.size ∧ S ≤ b
  box : Holds wr b 24 [vt]
  row : ∃ fo, wr.ownsRow S 53 5 vt l.length fo ∧ LsF NodeF (fun k => k ≠ b ∧ vt.ownBlock ≠ some k) wr l fo
structure TurI (S S7 : Nat) (l : List PArc) (w7 : World) (vl : Value) (wr : World) : Prop where
  below : Below S7 w7 wr
  ge : S7 ≤ w7.heap.size ∧ S ≤ S7
  row : ∃ fl, wr.ownsRow S7 55 6 vl l.length fl ∧ LsF ArcF (fun k => k < S) wr l fl
theorem TurI.step {S S7 : Nat} {l : List PArc} {w7 wr w' : World} {vl vl' : Value} {a : PArc} {fl c : List Value} {o : Obj} (h : TurI S S7 l w7 vl wr) (hfl : LsF ArcF (fun k => k < S) wr l fl) (hr : wr.ownsRow S7 55 6 vl l.length fl) (hc : ArcF (fun k => k < S) wr a c)
    (hown : w'.ownsRow S7 55 6 vl' (l.length + 1) (fl ++ c)) (hgr : (wr.alloc o).grownBy w' vl.ownBlock) : TurI S S7 (l ++ [a]) w7 vl' w' := by
  have hg := h.ge
  have hb := h.below.size
  have hbl : Below S7 wr w' := ((Below.refl _ wr).alloc (by omega) o).grown hgr (by simp; omega) fun k hk => owns_ge hr k hk
  refine ⟨h.below.trans hbl, h.ge, fl ++ c, by rw [List.length_append]; exact hown, LsF.append ?_ (LsF.sing ?_)⟩
  · exact LsF.up (fun _ _ => oneArc.up fun k hk _ => hbl.block k (by omega)) _ hfl
  · exact oneArc.up (fun k hk _ => hbl.block k (by omega)) hc
theorem TurO.app {S b : Nat} {w2 wr W8 W9 W10 : World} {l : PNet} {y : PNode} {vt vt' : Value} {fo c : List Value} {o : Obj} (h : TurO S b w2 l vt wr) (hr : wr.ownsRow S 53 5 vt l.length fo) (hfo : LsF NodeF (fun k => k ≠ b ∧ vt.ownBlock ≠ some k) wr l fo) (h8 : Below wr.heap.size wr W8)
    (hy : NodeF (fun k => k < S ∨ wr.heap.size ≤ k) W8 y c) (hown : W9.ownsRow S 53 5 vt' (l.length + 1) (fo ++ c)) (hgr : (W8.alloc o).grownBy W9 vt.ownBlock) (hblk : vt'.ownBlock = vt.ownBlock ∨ vt'.ownBlock = some (W8.alloc o).heap.size) (hW : W10 = setR W9 b 0 [vt']) : TurO S b w2 (l ++ [y]) vt' W10 := by
  have hg := h.ge
  have hbs := h.below.size
  have hvl := owns_lt hr
  have hvg := owns_ge hr
  have hbl := h.box.lt
  have hs8 := h8.size
  have hs9 : W8.heap.size ≤ (W8.alloc o).heap.size := by simp
  have hf5 : Fr (fun q => q = b) W9 W10 := by rw [hW]; exact Fr.setRX _ _ 0 _
  have hf9 : Fr (fun q => vt.ownBlock = some q) W8 W9 := ((Fr.refl _ W8).alloc o).grown hgr fun q hq _ => hq
  have hf : Fr (fun q => q = b ∨ vt.ownBlock = some q) W8 W10 := (hf9.mono fun _ _ h => .inr h).trans hf5 fun q _ hq => .inl hq
  have hb8 : Holds W8 b 24 [vt] := h.box.belowAll h8
  have hr8 := owns_below hr h8
  have hb9 : Holds W9 b 24 [vt] := hf9.holds hb8 (owns_ne_holds hr8 hb8 (by decide))
  have hv : ∀ k, k < W8.heap.size → vt.ownBlock ≠ some k → vt'.ownBlock ≠ some k := fun k hk hn he => by
    rcases hblk with hb | hb
    · rw [hb] at he; exact hn he
    · rw [hb] at he; injection he with he; omega
  refine ⟨(h.below.trans (h8.mono (by omega))).trans (hf.to_below (by omega) fun k hk hor => ?_), h.ge, hb9.stored hW (Nat.le_refl _), fo ++ c, ?_, LsF.append ?_ (LsF.sing ?_)⟩
  · rcases hor with rfl | hor
    · omega
    · have := hvg k hor; omega
  · rw [List.length_append]
    exact hf5.owns hown fun g hgg he => owns_ne_holds hown hb9 (by decide) (by rw [← he]; exact hgg)
  · have a0 := LsF.mono (fun _ _ => NodeF.mono (Wide.in_ (w := wr))) _ hfo
    have a1 := LsF.up (w' := W8) (fun _ _ => oneNode.up fun k hk hs => h8.block k hs) _ a0
    have a2 := LsF.up (w' := W10) (fun _ _ => oneNode.up fun k hk hs => hf.block k hs fun hor => hor.elim hk.1.1 hk.1.2) _ a1
    exact LsF.mono (fun _ _ => NodeF.mono fun k hk _ => ⟨hk.1.1, hv k (by omega) hk.1.2⟩) _ a2
  · have hne : ∀ k, (k < S ∨ wr.heap.size ≤ k) → k ≠ b ∧ vt.ownBlock ≠ some k := fun k hk => ⟨by omega, fun he => by have := hvl k he; have := hvg k he; omega⟩
    have a0 := NodeF.mono (Wide.in_ (w := W8)) hy
    have a2 := oneNode.up (w' := W10) (fun k hk hs => hf.block k hs fun hor => hor.elim (hne k hk.1).1 (hne k hk.1).2) a0
    exact NodeF.mono (fun k hk _ => ⟨(hne k hk.1).1, hv k hk.2 (hne k hk.1).2⟩) a2
/-- The node with its arcs turned, in its box. -/
theorem TurI.node {S S7 b7 : Nat} {x : PNode} {w7 wi W8 : World} {va vl : Value} (h : TurI S S7 x.arcs.reverse w7 vl wi) (h7 : Holds wi b7 53 (nodeC va x)) (hb : S ≤ b7) (hW : W8 = setR wi b7 0 [vl]) {lo : Nat} (hlo : lo ≤ S7) : NodeF (fun k => k < S ∨ lo ≤ k) W8 (revX x) (nodeC vl x) ∧ Holds W8 b7 53 (nodeC vl x) ∧ Fr (fun q => q = b7) wi W8 := by
  obtain ⟨fl, r1, r2⟩ := h.row
  have hf : Fr (fun q => q = b7) wi W8 := by rw [hW]; exact Fr.setRX _ _ 0 _
  have hr8 : W8.ownsRow S7 55 6 vl x.arcs.reverse.length fl := hf.owns r1 fun g hg he => owns_ne_holds r1 h7 (by decide) (by rw [← he]; exact hg)
  refine ⟨⟨vl, rfl, fl, RowL.of_owns2 hr8 fun g hg => .inr (Nat.le_trans hlo (owns_ge r1 g hg)), LsF.mono (fun _ _ => ArcF.mono fun k hk _ => .inl hk) _ (LsF.up (fun _ _ => oneArc.up fun k hk hs => hf.block k hs fun e => by omega) _ r2)⟩, h7.stored hW (Nat.le_of_ble_eq_true rfl), hf⟩
theorem TurO.net {S b : Nat} {w2 wr : World} {l : PNet} {vt : Value} (h : TurO S b w2 l vt wr) : NetV (fun _ => True) wr vt l := by
  obtain ⟨fo, h1, h2⟩ := h.row
  exact ⟨fo, RowL.of_owns h1 fun _ _ => trivial, LsF.mono (fun _ _ => NodeF.mono fun _ _ _ => trivial) _ h2⟩
/-- A row that is not empty, taken apart. -/
theorem RowL.some {P : Nat → Prop} {w : World} {size n : Nat} {v : Value} {f : List Value} (h : RowL P w size v n f) (hn : 0 < n) : ∃ g o cap, v = .slice (some ⟨g, o, none⟩) n cap := by
  obtain ⟨a, cap, h1, _, _, _, _, h6⟩ := h
  obtain ⟨g, o, _, _, h7, _⟩ := h6 hn
  exact ⟨g, o, cap, by rw [h1, h7]⟩
theorem str_at {P : Nat → Prop} {w : World} {g o L cap : Nat} {st : List Nat} (h : RowL P w 1 (.slice (some ⟨g, o, none⟩) L cap) L (st.map fun m => .string (keyS m))) {j k : Nat} (hj : j < L) (hk : st[j]? = some k) : w.cell? ⟨g, o + j, none⟩ = some (.string (keyS k)) := by
  obtain ⟨g', o', cap', x, h1, h2, h3⟩ := h.at1 hj
  injection h1 with h1 _ _
  injection h1 with h1
  injection h1 with h1 h1'
  subst h1 h1'
  rw [List.getElem?_map, hk] at h2
  injection h2 with h2
  rw [h3, ← h2]
theorem node_at {P : Nat → Prop} {w : World} {gg og L cg : Nat} {g : PNet} {fg : List Value} (h : RowL P w 5 (.slice (some ⟨gg, og, none⟩) L cg) L fg) (hg : LsF NodeF P w g fg) (hl : g.length = L) {j : Nat} (hj : j < L) {x : PNode} (hx : g[j]? = some x) :
    ∃ a c, w.cell? ⟨gg, og + j * 5, none⟩ = some (.slice a x.arcs.length c) ∧ w.cell? ⟨gg, og + j * 5 + 1, none⟩ = some (.int .u64 (x.props : Int)) := by
  subst hl
  obtain ⟨gb, ob, cb, c, h1, h2, h3⟩ := h.atN oneNode hg hj
  injection h1 with h1 _ _
  injection h1 with h1
  injection h1 with h1 h1'
  subst h1 h1'
  rw [List.getElem?_eq_getElem hj] at hx
  injection hx with hx
  rw [hx] at h2
  obtain ⟨va, rfl, f, h4, _⟩ := h2
  obtain ⟨a, k, rfl, _⟩ := h4.form
  exact ⟨a, k, h3 0 _ rfl, h3 1 _ rfl⟩
theorem below_drewN {B : Nat} {a w : World} (h : Below B a w) (n : Nat) : Below B a (w.drewN n) := ⟨h.os, h.tape, h.output, h.size, h.block⟩
theorem bytes_eq {a b : ByteArray} (h : (a.toList == b.toList) = true) : a = b := by
  have h' : a.toList = b.toList := by simpa using h
  rw [ByteArray.toList_eq, ByteArray.toList_eq] at h'
  exact ByteArray.ext (Array.ext' h')
theorem rev_step {l : List PArc} {j : Nat} (hj : j < l.length) : l.reverse.take (j + 1) = l.reverse.take j ++ [l[l.length - 1 - j]] := by
  rw [List.take_add_one, List.getElem?_eq_getElem (by simpa using hj), List.getElem_reverse]
  rfl
theorem rev_step' {l : List PArc} {j kk : Nat} {a : PArc} (hj : j < l.length) (hk : kk = l.length - 1 - j) (hl : kk < l.length) (ha : l[kk] = a) : l.reverse.take (j + 1) = l.reverse.take j ++ [a] := by
  subst hk
  rw [rev_step hj, ha]
theorem turn_small {N : PNet} (hs : Small N) (hc : chk N = true) (hl : N.length < 20000) : Small (turnN N) := small_chk (turn_chk hc hl) fun x hx b hb => by
  unfold turnN at hx
  rcases List.mem_append.1 hx with hx | hx
  · obtain ⟨y, hy, rfl⟩ := List.mem_map.1 hx
    exact hs.mem hy (by simpa [revX] using hb)
  · rw [List.mem_singleton] at hx
    subst hx
    cases hb
end Go.Proofs.Ytcedenoicmpjmaa
