/- Processes as arguments, opened. -/
import Derived.Test.YtcopoaaofjeklaaOpn
import Derived.Test.YtcopoaaofjeklaaTsy
namespace Go.Proofs.Ytcopoaaofjeklaa.G
open Go.RowKit Go.ChangeShapes Go.WideShapes Go.Deep Go.Joins
set_option linter.unusedVariables false

section
variable {H : Type} {enc : TypeId × Value → H} {w : World} {base : Nat} {held : Bool}
theorem cells_tarc : Try.prog.cellsOf 64 = 8 := by kernel_rfl
theorem cells_tarcs : Try.prog.cellsOf 59 = 1 := by kernel_rfl
theorem cells_tnode : Try.prog.cellsOf 61 = 4 := by kernel_rfl
theorem cells_tnodes : Try.prog.cellsOf 57 = 1 := by kernel_rfl
theorem cells_tprocs : Try.prog.cellsOf 28 = 1 := by kernel_rfl
theorem cells_tprop : Try.prog.cellsOf 56 = 2 := by kernel_rfl
theorem cells_tprops : Try.prog.cellsOf 29 = 1 := by kernel_rfl
theorem cells_thr : Try.prog.cellsOf 31 = 3 := by kernel_rfl
instance : Inhabited TArc := ⟨⟨0, false, 0, 0, false, 0, 0, 0⟩⟩
instance : Inhabited TNode := ⟨⟨[], false, false, false⟩⟩
instance : Inhabited TProp := ⟨⟨0, 0⟩⟩
theorem list8 {cs : List Value} (h : cs.length = 8) : ∃ a b c d e f g k, cs = [a, b, c, d, e, f, g, k] := by
  match cs, h with
  | [a, b, c, d, e, f, g, k], _ => exact ⟨a, b, c, d, e, f, g, k, rfl⟩
theorem list4 {cs : List Value} (h : cs.length = 4) : ∃ a b c d, cs = [a, b, c, d] := by
  match cs, h with
  | [a, b, c, d], _ => exact ⟨a, b, c, d, rfl⟩
theorem list3 {cs : List Value} (h : cs.length = 3) : ∃ a b c, cs = [a, b, c] := by
  match cs, h with
  | [a, b, c], _ => exact ⟨a, b, c, rfl⟩
theorem list2 {cs : List Value} (h : cs.length = 2) : ∃ a b, cs = [a, b] := by
  match cs, h with
  | [a, b], _ => exact ⟨a, b, rfl⟩
set_option maxRecDepth 100000 in
theorem open_tarc {fuel : Nat} {cs : List Value} {x : DataW H × List MemPlace} (hl : cs.length = 8) (h : DataW.trod enc Try.prog w base (fun _ => true) held fuel 64 cs = some x) : ∃ a : TArc, TArcF (fun _ => True) w a cs := by
  obtain ⟨c0, c1, c2, c3, c4, c5, c6, c7, rfl⟩ := list8 hl
  obtain ⟨xs, n, _, hx1, _, hxl, hf⟩ := DataW.trod_struct Try.underlying64 h
  have h0 : DataW.trod enc Try.prog w base (fun _ => true) held n 3 (([c0, c1, c2, c3, c4, c5, c6, c7].drop 0).take (Try.prog.cellsOf 3)) = xs[0]? := hf 0 _ rfl
  have h1 : DataW.trod enc Try.prog w base (fun _ => true) held n 4 (([c0, c1, c2, c3, c4, c5, c6, c7].drop 1).take (Try.prog.cellsOf 4)) = xs[1]? := hf 1 _ rfl
  have h2 : DataW.trod enc Try.prog w base (fun _ => true) held n 3 (([c0, c1, c2, c3, c4, c5, c6, c7].drop 2).take (Try.prog.cellsOf 3)) = xs[2]? := hf 2 _ rfl
  have h3 : DataW.trod enc Try.prog w base (fun _ => true) held n 3 (([c0, c1, c2, c3, c4, c5, c6, c7].drop 3).take (Try.prog.cellsOf 3)) = xs[3]? := hf 3 _ rfl
  have h4 : DataW.trod enc Try.prog w base (fun _ => true) held n 4 (([c0, c1, c2, c3, c4, c5, c6, c7].drop 4).take (Try.prog.cellsOf 4)) = xs[4]? := hf 4 _ rfl
  have h5 : DataW.trod enc Try.prog w base (fun _ => true) held n 3 (([c0, c1, c2, c3, c4, c5, c6, c7].drop 5).take (Try.prog.cellsOf 3)) = xs[5]? := hf 5 _ rfl
  have h6 : DataW.trod enc Try.prog w base (fun _ => true) held n 3 (([c0, c1, c2, c3, c4, c5, c6, c7].drop 6).take (Try.prog.cellsOf 3)) = xs[6]? := hf 6 _ rfl
  have h7 : DataW.trod enc Try.prog w base (fun _ => true) held n 3 (([c0, c1, c2, c3, c4, c5, c6, c7].drop 7).take (Try.prog.cellsOf 3)) = xs[7]? := hf 7 _ rfl
  have hxl' : xs.length = 8 := hxl
  simp only [cells_int, cells_bool, List.drop_zero, List.take_succ_cons, List.take_zero, List.drop_succ_cons] at h0 h1 h2 h3 h4 h5 h6 h7
  rw [List.getElem?_eq_getElem (by omega)] at h0 h1 h2 h3 h4 h5 h6 h7
  obtain ⟨z0, e0, _, _⟩ := DataW.trod_int Try.underlying3 h0
  obtain ⟨z1, e1, _⟩ := DataW.trod_bool Try.underlying4 h1
  obtain ⟨z2, e2, _, _⟩ := DataW.trod_int Try.underlying3 h2
  obtain ⟨z3, e3, _, _⟩ := DataW.trod_int Try.underlying3 h3
  obtain ⟨z4, e4, _⟩ := DataW.trod_bool Try.underlying4 h4
  obtain ⟨z5, e5, _, _⟩ := DataW.trod_int Try.underlying3 h5
  obtain ⟨z6, e6, _, _⟩ := DataW.trod_int Try.underlying3 h6
  obtain ⟨z7, e7, _, _⟩ := DataW.trod_int Try.underlying3 h7
  injection e0 with e0 _
  injection e1 with e1 _
  injection e2 with e2 _
  injection e3 with e3 _
  injection e4 with e4 _
  injection e5 with e5 _
  injection e6 with e6 _
  injection e7 with e7 _
  subst e0 e1 e2 e3 e4 e5 e6 e7
  exact ⟨⟨z0, z1, z2, z3, z4, z5, z6, z7⟩, rfl⟩
theorem open_tarcs {fuel : Nat} {v : Value} {x : DataW H × List MemPlace} (h : DataW.trod enc Try.prog w base (fun _ => true) held fuel 59 [v] = some x) :
    ∃ (l : List TArc) (f : List Value), RowL (fun _ => True) w 8 v l.length f ∧ LsF TArcF (fun _ => True) w l f ∧ l.length ≤ Rows.uptoBulk x.1 := by
  obtain ⟨n, N, C, D, hR, hC, hx⟩ := open_flat Try.underlying59 cells_tarc (by decide) h
  obtain ⟨Z, hZ⟩ := choose_lt (α := TArc) (n := n) (p := fun i a => TArcF (fun _ => True) w a (C i)) (fun i hi => open_tarc (hC i hi).1 (hC i hi).2)
  exact ⟨(List.range n).map Z, (List.range n).flatMap C, by simpa using hR, flat_ls Z n C fun i hi => hZ i hi, by simpa using bulk_len hx⟩
theorem bulk_in {n : Nat} {x : DataW H} {D : Nat → DataW H} (hx : (∃ sp, x = .slice ((List.range n).map D) sp) ∨ n = 0) {i : Nat} (hi : i < n) : Rows.uptoBulk (D i) ≤ Rows.uptoBulk x := by
  have h1 := bulk_slice (fun i => Rows.uptoBulk (D i)) hx (fun i hi => Nat.le_refl _)
  have h2 := le_sum (fun i => Rows.uptoBulk (D i)) (List.mem_range.2 hi)
  omega
set_option maxRecDepth 100000 in
theorem open_tnode {fuel : Nat} {cs : List Value} {x : DataW H × List MemPlace} (hl : cs.length = 4) (h : DataW.trod enc Try.prog w base (fun _ => true) held fuel 61 cs = some x) :
    ∃ a : TNode, TNodeF (fun _ => True) w a cs ∧ a.arcs.length ≤ Rows.uptoBulk x.1 := by
  obtain ⟨c0, c1, c2, c3, rfl⟩ := list4 hl
  obtain ⟨xs, n, _, hx1, _, hxl, hf⟩ := DataW.trod_struct Try.underlying61 h
  have h0 : DataW.trod enc Try.prog w base (fun _ => true) held n 59 (([c0, c1, c2, c3].drop 0).take (Try.prog.cellsOf 59)) = xs[0]? := hf 0 _ rfl
  have h1 : DataW.trod enc Try.prog w base (fun _ => true) held n 4 (([c0, c1, c2, c3].drop 1).take (Try.prog.cellsOf 4)) = xs[1]? := hf 1 _ rfl
  have h2 : DataW.trod enc Try.prog w base (fun _ => true) held n 4 (([c0, c1, c2, c3].drop 2).take (Try.prog.cellsOf 4)) = xs[2]? := hf 2 _ rfl
  have h3 : DataW.trod enc Try.prog w base (fun _ => true) held n 4 (([c0, c1, c2, c3].drop 3).take (Try.prog.cellsOf 4)) = xs[3]? := hf 3 _ rfl
  have hxl' : xs.length = 4 := hxl
  simp only [cells_tarcs, cells_bool, List.drop_zero, List.take_succ_cons, List.take_zero, List.drop_succ_cons] at h0 h1 h2 h3
  rw [List.getElem?_eq_getElem (by omega)] at h0 h1 h2 h3
  obtain ⟨b1, e1, _⟩ := DataW.trod_bool Try.underlying4 h1
  obtain ⟨b2, e2, _⟩ := DataW.trod_bool Try.underlying4 h2
  obtain ⟨b3, e3, _⟩ := DataW.trod_bool Try.underlying4 h3
  injection e1 with e1 _
  injection e2 with e2 _
  injection e3 with e3 _
  subst e1 e2 e3
  obtain ⟨l, f, hl1, hl2, hl3⟩ := open_tarcs h0
  have hb0 : Rows.uptoBulk xs[0].1 ≤ Rows.uptoBulk x.1 := by
    rw [hx1]
    simp only [Rows.uptoBulk]
    have := bulk_field (xs.map (·.1)) (List.mem_map.2 ⟨xs[0], List.getElem_mem _, rfl⟩)
    omega
  exact ⟨⟨l, b1, b2, b3⟩, ⟨c0, f, rfl, hl1, hl2⟩, Nat.le_trans hl3 hb0⟩
theorem open_tnodes {fuel : Nat} {v : Value} {x : DataW H × List MemPlace} (h : DataW.trod enc Try.prog w base (fun _ => true) held fuel 57 [v] = some x) :
    ∃ l : List TNode, TProcF (fun _ => True) w l [v] ∧ l.length ≤ Rows.uptoBulk x.1 ∧ ∀ y ∈ l, y.arcs.length ≤ Rows.uptoBulk x.1 := by
  obtain ⟨n, N, C, D, hR, hC, hx⟩ := open_flat Try.underlying57 cells_tnode (by decide) h
  obtain ⟨Z, hZ⟩ := choose_lt (α := TNode) (n := n) (p := fun i a => TNodeF (fun _ => True) w a (C i) ∧ a.arcs.length ≤ Rows.uptoBulk (D i).1) (fun i hi => open_tnode (hC i hi).1 (hC i hi).2)
  refine ⟨(List.range n).map Z, ⟨v, (List.range n).flatMap C, rfl, by simpa using hR, flat_ls Z n C fun i hi => (hZ i hi).1⟩, by simpa using bulk_len hx, fun y hy => ?_⟩
  obtain ⟨i, hi, rfl⟩ := List.mem_map.1 hy
  have hi := List.mem_range.1 hi
  exact Nat.le_trans (hZ i hi).2 (bulk_in (D := fun i => (D i).1) hx hi)
theorem open_tprocs {fuel : Nat} {v : Value} {x : DataW H × List MemPlace} (h : DataW.trod enc Try.prog w base (fun _ => true) held fuel 28 [v] = some x) :
    ∃ (l : List (List TNode)) (f : List Value), RowL (fun _ => True) w 1 v l.length f ∧ LsF TProcF (fun _ => True) w l f ∧ l.length ≤ Rows.uptoBulk x.1 ∧ ∀ p ∈ l, p.length ≤ Rows.uptoBulk x.1 ∧ ∀ y ∈ p, y.arcs.length ≤ Rows.uptoBulk x.1 := by
  obtain ⟨n, N, C, D, hR, hC, hx⟩ := open_flat Try.underlying28 cells_tnodes (by decide) h
  obtain ⟨Z, hZ⟩ := choose_lt (α := List TNode) (n := n) (p := fun i a => TProcF (fun _ => True) w a (C i) ∧ a.length ≤ Rows.uptoBulk (D i).1 ∧ ∀ y ∈ a, y.arcs.length ≤ Rows.uptoBulk (D i).1) (fun i hi => by
    obtain ⟨h1, h2⟩ := hC i hi
    obtain ⟨v0, hv0⟩ := List.length_eq_one_iff.1 h1
    rw [hv0] at h2 ⊢
    exact open_tnodes h2)
  refine ⟨(List.range n).map Z, (List.range n).flatMap C, by simpa using hR, flat_ls Z n C fun i hi => (hZ i hi).1, by simpa using bulk_len hx, fun y hy => ?_⟩
  obtain ⟨i, hi, rfl⟩ := List.mem_map.1 hy
  have hi := List.mem_range.1 hi
  have hb := bulk_in (D := fun i => (D i).1) hx hi
  exact ⟨Nat.le_trans (hZ i hi).2.1 hb, fun z hz => Nat.le_trans ((hZ i hi).2.2 z hz) hb⟩
set_option maxRecDepth 100000 in
theorem open_tprop {fuel : Nat} {cs : List Value} {x : DataW H × List MemPlace} (hl : cs.length = 2) (h : DataW.trod enc Try.prog w base (fun _ => true) held fuel 56 cs = some x) : ∃ a : TProp, TPropF (fun _ => True) w a cs := by
  obtain ⟨c0, c1, rfl⟩ := list2 hl
  obtain ⟨xs, n, _, hx1, _, hxl, hf⟩ := DataW.trod_struct Try.underlying56 h
  have h0 : DataW.trod enc Try.prog w base (fun _ => true) held n 3 (([c0, c1].drop 0).take (Try.prog.cellsOf 3)) = xs[0]? := hf 0 _ rfl
  have h1 : DataW.trod enc Try.prog w base (fun _ => true) held n 3 (([c0, c1].drop 1).take (Try.prog.cellsOf 3)) = xs[1]? := hf 1 _ rfl
  have hxl' : xs.length = 2 := hxl
  simp only [cells_int, List.drop_zero, List.take_succ_cons, List.take_zero, List.drop_succ_cons] at h0 h1
  rw [List.getElem?_eq_getElem (by omega)] at h0 h1
  obtain ⟨z0, e0, _, _⟩ := DataW.trod_int Try.underlying3 h0
  obtain ⟨z1, e1, _, _⟩ := DataW.trod_int Try.underlying3 h1
  injection e0 with e0 _
  injection e1 with e1 _
  subst e0 e1
  exact ⟨⟨z0, z1⟩, rfl⟩
theorem open_tprops {fuel : Nat} {v : Value} {x : DataW H × List MemPlace} (h : DataW.trod enc Try.prog w base (fun _ => true) held fuel 29 [v] = some x) :
    ∃ (l : List TProp) (f : List Value), RowL (fun _ => True) w 2 v l.length f ∧ LsF TPropF (fun _ => True) w l f ∧ l.length ≤ Rows.uptoBulk x.1 := by
  obtain ⟨n, N, C, D, hR, hC, hx⟩ := open_flat Try.underlying29 cells_tprop (by decide) h
  obtain ⟨Z, hZ⟩ := choose_lt (α := TProp) (n := n) (p := fun i a => TPropF (fun _ => True) w a (C i)) (fun i hi => open_tprop (hC i hi).1 (hC i hi).2)
  exact ⟨(List.range n).map Z, (List.range n).flatMap C, by simpa using hR, flat_ls Z n C fun i hi => hZ i hi, by simpa using bulk_len hx⟩
set_option maxRecDepth 100000 in
theorem open_threads {r : Reach} {b0 : Nat} {v : Value} {d : DataW H} {p : List MemPlace} (hv : Value.okWide Try.prog w r b0 31 v) (h : DataW.Trod enc Try.prog w base (fun _ => true) held 31 v d p) (hd : Rows.uptoBulk d ≤ 1048576) :
    ∃ (vi vp vq : Value) (t : PThr), v = .agg #[vi, vp, vq] ∧ ThrV (fun _ => True) w vi vp vq t ∧ SmallT t := by
  obtain ⟨cs, rfl, hsz⟩ := okWide_struct Try.underlying31 hv
  rw [cells_thr] at hsz
  obtain ⟨l⟩ := cs
  match l, hsz with
  | [c0, c1, c2], _ =>
    obtain ⟨fuel, hf0⟩ := h
    obtain ⟨xs, n, _, hx1, _, hxl, hf⟩ := DataW.trod_struct Try.underlying31 hf0
    have h0 : DataW.trod enc Try.prog w base (fun _ => true) held n 22 ((([c0, c1, c2] : List Value).drop 0).take (Try.prog.cellsOf 22)) = xs[0]? := hf 0 _ rfl
    have h1 : DataW.trod enc Try.prog w base (fun _ => true) held n 28 ((([c0, c1, c2] : List Value).drop 1).take (Try.prog.cellsOf 28)) = xs[1]? := hf 1 _ rfl
    have h2 : DataW.trod enc Try.prog w base (fun _ => true) held n 29 ((([c0, c1, c2] : List Value).drop 2).take (Try.prog.cellsOf 29)) = xs[2]? := hf 2 _ rfl
    have hxl' : xs.length = 3 := hxl
    simp only [cells_ints, cells_tprocs, cells_tprops, List.drop_zero, List.take_succ_cons, List.take_zero, List.drop_succ_cons] at h0 h1 h2
    rw [List.getElem?_eq_getElem (by omega)] at h0 h1 h2
    obtain ⟨li, hi1, hi2⟩ := open_rowI h0
    obtain ⟨lp, fp, hp1, hp2, hp3, hp4⟩ := open_tprocs h1
    obtain ⟨lq, fq, hq1, hq2, hq3⟩ := open_tprops h2
    have hb : ∀ (i : Nat) (hi : i < xs.length), Rows.uptoBulk xs[i].1 ≤ 1048576 := fun i hi => by
      have h3 := bulk_field (xs.map (·.1)) (List.mem_map.2 ⟨xs[i], List.getElem_mem hi, rfl⟩)
      have h4 : Rows.uptoBulkAll (xs.map (·.1)) ≤ Rows.uptoBulk d := by
        have hx2 := congrArg (fun z => Rows.uptoBulk z.1) hx1
        simp only [Rows.uptoBulk] at hx2
        omega
      omega
    have b0 := hb 0 (by omega)
    have b1 := hb 1 (by omega)
    have b2 := hb 2 (by omega)
    exact ⟨c0, c1, c2, ⟨li, lp, lq⟩, rfl, ⟨hi1, ⟨fp, hp1, hp2⟩, ⟨fq, hq1, hq2⟩⟩, ⟨by show li.length ≤ _; omega, by show lp.length ≤ _; omega, by show lq.length ≤ _; omega, fun p hp => by have := (hp4 p hp).1; omega, fun p hp y hy => by have := (hp4 p hp).2 y hy; omega⟩⟩
end
end Go.Proofs.Ytcopoaaofjeklaa.G
