/- Tur, Cpy, joined. -/
import Derived.Test.YtpednhcfkjjcpaaMg5
import Derived.Laws.CopyRow
section
/- What lies in memory while arcs are turned. -/
namespace Go.Proofs.Ytpednhcfkjjcpaa
open Go.RowKit
set_option linter.unusedVariables false
set_option linter.unusedSimpArgs false

structure TurO (S b : Nat) (w2 : World) (l : PNet) (vt : Value) (wr : World) : Prop where
  below : Below S w2 wr
  ge : S ≤ w2.heap.size ∧ S ≤ b
  box : Holds wr b 24 [vt]
  row : ∃ fo, wr.ownsRow S 81 5 vt l.length fo ∧ LsF NodeF (fun k => k ≠ b ∧ vt.ownBlock ≠ some k) wr l fo
structure TurI (S S7 : Nat) (l : List PArc) (w7 : World) (vl : Value) (wr : World) : Prop where
  below : Below S7 w7 wr
  ge : S7 ≤ w7.heap.size ∧ S ≤ S7
  row : ∃ fl, wr.ownsRow S7 86 6 vl l.length fl ∧ LsF ArcF (fun k => k < S) wr l fl
theorem TurI.step {S S7 : Nat} {l : List PArc} {w7 wr w' : World} {vl vl' : Value} {a : PArc} {fl c : List Value} {o : Obj} (h : TurI S S7 l w7 vl wr) (hfl : LsF ArcF (fun k => k < S) wr l fl) (hr : wr.ownsRow S7 86 6 vl l.length fl) (hc : ArcF (fun k => k < S) wr a c)
    (hown : w'.ownsRow S7 86 6 vl' (l.length + 1) (fl ++ c)) (hgr : (wr.alloc o).grownBy w' vl.ownBlock) : TurI S S7 (l ++ [a]) w7 vl' w' := by
  have hg := h.ge
  have hb := h.below.size
  have hbl : Below S7 wr w' := ((Below.refl _ wr).alloc (by omega) o).grown hgr (by simp; omega) fun k hk => owns_ge hr k hk
  refine ⟨h.below.trans hbl, h.ge, fl ++ c, by rw [List.length_append]; exact hown, LsF.append ?_ (LsF.sing ?_)⟩
  · exact LsF.up (fun _ _ => oneArc.up fun k hk _ => hbl.block k (by omega)) _ hfl
  · exact oneArc.up (fun k hk _ => hbl.block k (by omega)) hc
theorem TurO.app {S b : Nat} {w2 wr W8 W9 W10 : World} {l : PNet} {y : PNode} {vt vt' : Value} {fo c : List Value} {o : Obj} (h : TurO S b w2 l vt wr) (hr : wr.ownsRow S 81 5 vt l.length fo) (hfo : LsF NodeF (fun k => k ≠ b ∧ vt.ownBlock ≠ some k) wr l fo) (h8 : Below wr.heap.size wr W8)
    (hy : NodeF (fun k => k < S ∨ wr.heap.size ≤ k) W8 y c) (hown : W9.ownsRow S 81 5 vt' (l.length + 1) (fo ++ c)) (hgr : (W8.alloc o).grownBy W9 vt.ownBlock) (hblk : vt'.ownBlock = vt.ownBlock ∨ vt'.ownBlock = some (W8.alloc o).heap.size) (hW : W10 = setR W9 b 0 [vt']) : TurO S b w2 (l ++ [y]) vt' W10 := by
  have hg := h.ge
  have hbs := h.below.size
  have hvl := owns_lt hr
  have hvg := owns_ge hr
  have hbl := h.box.lt
  have hs8 := h8.size
  have hs9 : W8.heap.size ≤ (W8.alloc o).heap.size := by simp
  have hf5 : Fr (fun q => q = b) W9 W10 := by rw [hW]; exact Fr.setRX _ _ 0 _
  have hf9 : Fr (fun q => vt.ownBlock = some q) W8 W9 := ((Fr.refl _ W8).alloc o).grown hgr fun q hq _ => hq
  have hf : Fr (fun q => q = b ∨ vt.ownBlock = some q) W8 W10 := (hf9.mono fun _ _ h => .inr h).trans hf5 fun q _ hq => .inl hq
  have hb8 : Holds W8 b 24 [vt] := h.box.belowAll h8
  have hr8 := owns_below hr h8
  have hb9 : Holds W9 b 24 [vt] := hf9.holds hb8 (owns_ne_holds hr8 hb8 (by decide))
  have hv : ∀ k, k < W8.heap.size → vt.ownBlock ≠ some k → vt'.ownBlock ≠ some k := fun k hk hn he => by
    rcases hblk with hb | hb
    · rw [hb] at he; exact hn he
    · rw [hb] at he; injection he with he; omega
  refine ⟨(h.below.trans (h8.mono (by omega))).trans (hf.to_below (by omega) fun k hk hor => ?_), h.ge, hb9.stored hW (Nat.le_refl _), fo ++ c, ?_, LsF.append ?_ (LsF.sing ?_)⟩
  · rcases hor with rfl | hor
    · omega
    · have := hvg k hor; omega
  · rw [List.length_append]
    exact hf5.owns hown fun g hgg he => owns_ne_holds hown hb9 (by decide) (by rw [← he]; exact hgg)
  · have a0 := LsF.mono (fun _ _ => NodeF.mono (Wide.in_ (w := wr))) _ hfo
    have a1 := LsF.up (w' := W8) (fun _ _ => oneNode.up fun k hk hs => h8.block k hs) _ a0
    have a2 := LsF.up (w' := W10) (fun _ _ => oneNode.up fun k hk hs => hf.block k hs fun hor => hor.elim hk.1.1 hk.1.2) _ a1
    exact LsF.mono (fun _ _ => NodeF.mono fun k hk _ => ⟨hk.1.1, hv k (by omega) hk.1.2⟩) _ a2
  · have hne : ∀ k, (k < S ∨ wr.heap.size ≤ k) → k ≠ b ∧ vt.ownBlock ≠ some k := fun k hk => ⟨by omega, fun he => by have := hvl k he; have := hvg k he; omega⟩
    have a0 := NodeF.mono (Wide.in_ (w := W8)) hy
    have a2 := oneNode.up (w' := W10) (fun k hk hs => hf.block k hs fun hor => hor.elim (hne k hk.1).1 (hne k hk.1).2) a0
    exact NodeF.mono (fun k hk _ => ⟨(hne k hk.1).1, hv k hk.2 (hne k hk.1).2⟩) a2
/-- The node with its arcs turned, in its box. -/
theorem TurI.node {S S7 b7 : Nat} {x : PNode} {w7 wi W8 : World} {va vl : Value} (h : TurI S S7 x.arcs.reverse w7 vl wi) (h7 : Holds wi b7 81 (nodeC va x)) (hb : S ≤ b7) (hW : W8 = setR wi b7 0 [vl]) {lo : Nat} (hlo : lo ≤ S7) : NodeF (fun k => k < S ∨ lo ≤ k) W8 (revX x) (nodeC vl x) ∧ Holds W8 b7 81 (nodeC vl x) ∧ Fr (fun q => q = b7) wi W8 := by
  obtain ⟨fl, r1, r2⟩ := h.row
  have hf : Fr (fun q => q = b7) wi W8 := by rw [hW]; exact Fr.setRX _ _ 0 _
  have hr8 : W8.ownsRow S7 86 6 vl x.arcs.reverse.length fl := hf.owns r1 fun g hg he => owns_ne_holds r1 h7 (by decide) (by rw [← he]; exact hg)
  refine ⟨⟨vl, rfl, fl, RowL.of_owns2 hr8 fun g hg => .inr (Nat.le_trans hlo (owns_ge r1 g hg)), LsF.mono (fun _ _ => ArcF.mono fun k hk _ => .inl hk) _ (LsF.up (fun _ _ => oneArc.up fun k hk hs => hf.block k hs fun e => by omega) _ r2)⟩, h7.stored hW (Nat.le_of_ble_eq_true rfl), hf⟩
theorem TurO.net {S b : Nat} {w2 wr : World} {l : PNet} {vt : Value} (h : TurO S b w2 l vt wr) : NetV (fun _ => True) wr vt l := by
  obtain ⟨fo, h1, h2⟩ := h.row
  exact ⟨fo, RowL.of_owns h1 fun _ _ => trivial, LsF.mono (fun _ _ => NodeF.mono fun _ _ _ => trivial) _ h2⟩
/-- A row that is not empty, taken apart. -/
theorem RowL.some {P : Nat → Prop} {w : World} {size n : Nat} {v : Value} {f : List Value} (h : RowL P w size v n f) (hn : 0 < n) : ∃ g o cap, v = .slice (some ⟨g, o, none⟩) n cap := by
  obtain ⟨a, cap, h1, _, _, _, _, h6⟩ := h
  obtain ⟨g, o, _, _, h7, _⟩ := h6 hn
  exact ⟨g, o, cap, by rw [h1, h7]⟩
theorem str_at {P : Nat → Prop} {w : World} {g o L cap : Nat} {st : List Nat} (h : RowL P w 1 (.slice (some ⟨g, o, none⟩) L cap) L (st.map fun m => .string (keyS m))) {j k : Nat} (hj : j < L) (hk : st[j]? = some k) : w.cell? ⟨g, o + j, none⟩ = some (.string (keyS k)) := by
  obtain ⟨g', o', cap', x, h1, h2, h3⟩ := h.at1 hj
  injection h1 with h1 _ _
  injection h1 with h1
  injection h1 with h1 h1'
  subst h1 h1'
  rw [List.getElem?_map, hk] at h2
  injection h2 with h2
  rw [h3, ← h2]
theorem node_at {P : Nat → Prop} {w : World} {gg og L cg : Nat} {g : PNet} {fg : List Value} (h : RowL P w 5 (.slice (some ⟨gg, og, none⟩) L cg) L fg) (hg : LsF NodeF P w g fg) (hl : g.length = L) {j : Nat} (hj : j < L) {x : PNode} (hx : g[j]? = some x) :
    ∃ a c, w.cell? ⟨gg, og + j * 5, none⟩ = some (.slice a x.arcs.length c) ∧ w.cell? ⟨gg, og + j * 5 + 1, none⟩ = some (.int .u64 (x.props : Int)) := by
  subst hl
  obtain ⟨gb, ob, cb, c, h1, h2, h3⟩ := h.atN oneNode hg hj
  injection h1 with h1 _ _
  injection h1 with h1
  injection h1 with h1 h1'
  subst h1 h1'
  rw [List.getElem?_eq_getElem hj] at hx
  injection hx with hx
  rw [hx] at h2
  obtain ⟨va, rfl, f, h4, _⟩ := h2
  obtain ⟨a, k, rfl, _⟩ := h4.form
  exact ⟨a, k, h3 0 _ rfl, h3 1 _ rfl⟩
theorem below_drewN {B : Nat} {a w : World} (h : Below B a w) (n : Nat) : Below B a (w.drewN n) := ⟨h.os, h.tape, h.output, h.size, h.block⟩
theorem bytes_eq {a b : ByteArray} (h : (a.toList == b.toList) = true) : a = b := by
  have h' : a.toList = b.toList := by simpa using h
  rw [ByteArray.toList_eq, ByteArray.toList_eq] at h'
  exact ByteArray.ext (Array.ext' h')
theorem rev_step {l : List PArc} {j : Nat} (hj : j < l.length) : l.reverse.take (j + 1) = l.reverse.take j ++ [l[l.length - 1 - j]] := by
  rw [List.take_add_one, List.getElem?_eq_getElem (by simpa using hj), List.getElem_reverse]
  rfl
theorem rev_step' {l : List PArc} {j kk : Nat} {a : PArc} (hj : j < l.length) (hk : kk = l.length - 1 - j) (hl : kk < l.length) (ha : l[kk] = a) : l.reverse.take (j + 1) = l.reverse.take j ++ [a] := by
  subst hk
  rw [rev_step hj, ha]
theorem turn_small {N : PNet} (hs : Small N) (hc : chk N = true) (hl : N.length < 20000) : Small (turnN N) := small_chk (turn_chk hc hl) fun x hx b hb => by
  unfold turnN at hx
  rcases List.mem_append.1 hx with hx | hx
  · obtain ⟨y, hy, rfl⟩ := List.mem_map.1 hx
    exact hs.mem hy (by simpa [revX] using hb)
  · rw [List.mem_singleton] at hx
    subst hx
    cases hb
end Go.Proofs.Ytpednhcfkjjcpaa
end
section
/- copy of a row of things of any size into a block of the call's own; the statements' list, write and pick. -/
namespace Go.Proofs.Ytpednhcfkjjcpaa
open Go.RowKit
set_option linter.unusedVariables false
set_option linter.unusedSimpArgs false

/-- What lies in the block behind a copy (a name of its own, so that the walk leaves it standing). -/
structure CopyH (w : World) (g : Nat) (t : TypeId) (flat cur : List Value) : Prop where
  out : Holds w g t (flat ++ cur.drop flat.length)
section
variable {P : Program} {w : World}
theorem run_copyL {dT sT ty elem : TypeId} {sz n g dLen dCap : Nat} {R : Nat → Prop} {v : Value} {flat cur : List Value} {t : TypeId} (hu : P.underlying dT = some (.slice elem)) (hsz : (P.info? elem).map (·.size) = some sz) (hr : RowL R w sz v n flat) (hn : n ≤ dLen) (hg : Holds w g t cur) (hfit : flat.length ≤ cur.length) (h1 : ∀ u ∈ flat, u.oneCell' = true) :
    ∃ w', (Builtin.copy_ #[dT, sT] ty #[.slice (some ⟨g, 0, none⟩) dLen dCap, v]).run P w = .ok (goInt n) w' ∧ Holds w' g t (flat ++ cur.drop flat.length) ∧ Fr (fun q => q = g) w w' := by
  obtain ⟨a, cap, rfl, h2, h3, h4, h5, h6⟩ := hr
  cases hq : P.info? elem with
  | none => simp [hq] at hsz
  | some i =>
    have hi : i.size = sz := by simpa [hq] using hsz
    have hm : Nat.min n dLen = n := Nat.min_eq_left hn
    have hst := run_storeCells_at P g 0 t flat 0 cur.toArray w hg (by simpa using hfit) h1
    simp only [Nat.zero_add, List.take_zero, List.nil_append] at hst
    have hfr : Fr (fun q => q = g) w (w.setRow g (flat ++ cur.toArray.toList.drop flat.length).toArray) := ⟨rfl, rfl, rfl, by simp [World.setRow], fun k _ hk => setRow_other w g k _ hk⟩
    have hhd : Holds (w.setRow g (flat ++ cur.toArray.toList.drop flat.length).toArray) g t (flat ++ cur.drop flat.length) := by
      have := setRow_heap w g cur.toArray (flat ++ cur.toArray.toList.drop flat.length).toArray t (0, 0) hg
      simpa [Holds] using this
    refine ⟨_, ?_, hhd, hfr⟩
    by_cases hn0 : n = 0
    · subst hn0
      obtain rfl : flat = [] := List.eq_nil_of_length_eq_zero (by rw [h4, Nat.zero_mul])
      have hl : ∀ (x : Addr), (loadCells x 0).run P w = .ok #[] w := fun x => by simpa using run_loadCells_list (P := P) w x [] (by simp)
      cases a <;> simp [Builtin.copy_, run_underlying hu, Builtin.lenOf, Builtin.firstCells, sizeOf, typeInfo, hq, hl, hst]
    · obtain ⟨g', o', cs, t', rfl, _, k3, k4⟩ := h6 (by omega)
      have hl := run_loadCells_list (P := P) w ⟨g', o', none⟩ flat (fun j u hj => by
        have hjl := (List.getElem?_eq_some_iff.1 hj).1
        rw [Addr.add_lit, k3.cell, k4 j (by omega)]
        exact hj)
      rw [h4] at hl
      simp [Builtin.copy_, run_underlying hu, Builtin.lenOf, Builtin.firstCells, sizeOf, typeInfo, hq, hi, hm, hl, hst]
theorem wpList_copyL {ops : Array Oper} {rest : List Oper} {o : Oper} {a : Act} {Q : Exit → Act → World → Prop} (hgd : o.guard = none) (d s : Operand) (dT sT : TypeId) (ho : o.op = .call { callee := .builtin .copy, args := #[d, s], argTypes := #[dT, sT] })
    (elem : TypeId) (sz : Nat) (hu : P.underlying dT = some (.slice elem)) (hsz : (P.info? elem).map (·.size) = some sz) (g dLen dCap n : Nat) (hd : a.eval d = .slice (some ⟨g, 0, none⟩) dLen dCap) (v : Value) (hs : a.eval s = v) {R : Nat → Prop} (flat : List Value) (hr : RowL R w sz v n flat) (hn : n ≤ dLen) {t : TypeId} (cur : List Value) (hg : Holds w g t cur) (hfit : flat.length ≤ cur.length) (h1 : ∀ u ∈ flat, u.oneCell' = true)
    (h : ∀ w', CopyH w' g t flat cur → Fr (fun q => q = g) w w' → wpList P ops Q rest (a.put o.dst (goInt n)) w') : wpList P ops Q (o :: rest) a w := by
  refine wpList_plain hgd fun K hK => ?_
  obtain ⟨w', hrun, r1, r2⟩ := run_copyL (dT := dT) (sT := sT) (ty := o.type) (dCap := dCap) hu hsz hr hn hg hfit h1
  unfold Oper.wp
  simp [execOp, ho, resolve, invoke, builtin, hd, hs, hrun, Result.andThen]
  exact hK _ _ (h w' ⟨r1⟩ r2)
end
section
variable {P : Program} {ops : Array Oper} {Q : Exit → Act → World → Prop} {a : Act} {w : World} {rest : List Oper} {o : Oper}
theorem halt_call2 (c : Call) (ho : o.op = .call c) (h : Stop (wpList P ops Q (o :: rest) a w)) : wpList P ops Q (o :: rest) a w := h.out
theorem halt_store (ty : TypeId) (x y : Operand) (ho : o.op = .store ty x y) (h : Stop (wpList P ops Q (o :: rest) a w)) : wpList P ops Q (o :: rest) a w := h.out
end
theorem owns_all {w : World} {base sz n : Nat} {t : TypeId} {g : Nat} {flat : List Value} (h : w.ownsRow base t sz (.slice (some ⟨g, 0, none⟩) n n) n flat) : Holds w g t flat ∧ base ≤ g := by
  rcases h.2 with ⟨h0, _⟩ | ⟨g', cap, cur, hv, hb, hg, _, _, hcs, ht⟩
  · cases h0
  · injection hv with hv _ hc
    injection hv with hv
    injection hv with hv _
    subst hv
    subst hc
    rw [← hcs, ← Array.length_toList, List.take_length] at ht
    exact ⟨by rw [← ht]; unfold Holds; simpa using hg, hb⟩
structure MadeH (w : World) (g : Nat) (t : TypeId) (n : Nat) : Prop where
  out : ∃ cur, Holds w g t cur ∧ cur.length = n
theorem wpList_makeL {P : Program} {w : World} {ops : Array Oper} {rest : List Oper} {o : Oper} {a : Act} {Q : Exit → Act → World → Prop} (hgd : o.guard = none) (l c : Operand) (t : TypeId) (ho : o.op = .makeSlice t l c) (e : TypeId) (sz bytes : Nat) (ht : P.underlying t = some (.slice e))
    (hinfo : (P.info? e).map (fun i => (i.zero.map fun z => z.cells.size, i.size, i.bytes)) = some (some sz, sz, bytes)) (kl kc : IntKind) (L C : Int) (n : Nat) (hl : a.eval l = .int kl L) (hc : a.eval c = .int kc C) (hL : L = (n : Int)) (hC : C = (n : Int)) (hb : bytes * n ≤ 281474976710656) (hn : n ≤ maxLen)
    (h : ∀ w', MadeH w' w.heap.size e (n * sz) → Below w.heap.size w w' → wpList P ops Q rest (a.put o.dst (.slice (some ⟨w.heap.size, 0, none⟩) n n)) w') : wpList P ops Q (o :: rest) a w := by
  obtain ⟨i, z, h1, h2, h3, h4, h5⟩ := info_of hinfo
  refine wpList_make_full w hgd l c t ho w.heap.size e i z sz ht h1 h2 h3 kl kc L C n hl hc hL hC (by rw [h4]; exact hb) hn (Nat.le_refl _) fun w' hown hgr => ?_
  exact h w' ⟨_, (owns_all hown).1, hown.1⟩ ((Below.refl _ w).grown hgr (Nat.le_refl _) fun k hk => by cases hk)
/-- A row of numbers of its own, with a cell to spare. -/
def ListPost (l : List Int) (w : World) (e : Ending) (w' : World) : Prop := Below w.heap.size w w' ∧ ∃ g, e = .returned (.slice (some ⟨g, 0, none⟩) l.length (l.length + 1)) ∧ w.heap.size ≤ g ∧ Holds w' g 3 (l.map intV ++ [.int .i64 77])
end Go.Proofs.Ytpednhcfkjjcpaa
end
