/- Alternating automata as arguments, opened. -/
import Derived.Test.YtelanndleinabaaDoorOpenD
import Derived.Test.YtelanndleinabaaDoorAChk
namespace Go.Proofs.YtelanndleinabaaDoor
open Go.RowKit Go.ChangeShapes Go.WideShapes Go.Deep Go.Joins
set_option linter.unusedVariables false
section
variable {H : Type} {enc : TypeId × Value → H} {w : World} {base : Nat} {held : Bool}
theorem cells22 : Tryd.prog.cellsOf 22 = 1 := by kernel_rfl
theorem cells4 : Tryd.prog.cellsOf 4 = 1 := by kernel_rfl
theorem cells75 : Tryd.prog.cellsOf 75 = 1 := by kernel_rfl
theorem cells77 : Tryd.prog.cellsOf 77 = 2 := by kernel_rfl
theorem cells89 : Tryd.prog.cellsOf 89 = 3 := by kernel_rfl
theorem three {cs : List Value} (h : cs.length = 3) : ∃ a b c, cs = [a, b, c] := by
  match cs, h with
  | [a, b, c], _ => exact ⟨a, b, c, rfl⟩
theorem two {cs : List Value} (h : cs.length = 2) : ∃ a b, cs = [a, b] := by
  match cs, h with
  | [a, b], _ => exact ⟨a, b, rfl⟩
theorem one {cs : List Value} (h : cs.length = 1) : ∃ a, cs = [a] := by
  match cs, h with
  | [a], _ => exact ⟨a, rfl⟩
theorem open_amove {fuel : Nat} {cs : List Value} {x : DataW H × List MemPlace} (hl : cs.length = 3) (h : DataW.trod enc Tryd.prog w base (fun _ => true) held fuel 89 cs = some x) :
    ∃ p : AP, cs = apCells p ∧ RowI w.heap.size w p.2 p.1.to ∧ p.1.yes < 18446744073709551616 ∧ p.1.no < 18446744073709551616 := by
  obtain ⟨c0, c1, c2, rfl⟩ := three hl
  obtain ⟨z0, z1, n, _, _, h0, h1⟩ := trod_struct2 Tryd.underlying89 h
  replace h0 : DataW.trod enc Tryd.prog w base (fun _ => true) held n 51 (([c0, c1, c2].drop 0).take (Tryd.prog.cellsOf 51)) = some z0 := h0
  replace h1 : DataW.trod enc Tryd.prog w base (fun _ => true) held n 22 (([c0, c1, c2].drop 2).take (Tryd.prog.cellsOf 22)) = some z1 := h1
  simp only [cells51, cells22, List.drop_zero, List.take_succ_cons, List.take_zero, List.drop_succ_cons] at h0 h1
  obtain ⟨y0, y1, n', _, _, g0, g1⟩ := trod_struct2 Tryd.underlying51 h0
  replace g0 : DataW.trod enc Tryd.prog w base (fun _ => true) held n' 49 (([c0, c1].drop 0).take (Tryd.prog.cellsOf 49)) = some y0 := g0
  replace g1 : DataW.trod enc Tryd.prog w base (fun _ => true) held n' 49 (([c0, c1].drop 1).take (Tryd.prog.cellsOf 49)) = some y1 := g1
  simp only [cells49, List.drop_zero, List.take_succ_cons, List.take_zero, List.drop_succ_cons] at g0 g1
  obtain ⟨y, hy, _, hyw⟩ := DataW.trod_int Tryd.underlying49 g0
  obtain ⟨o, ho, _, how⟩ := DataW.trod_int Tryd.underlying49 g1
  injection hy with hy _
  injection ho with ho _
  subst hy ho
  have k1 := wf_u64 hyw
  have k2 := wf_u64 how
  obtain ⟨xs, hxs, _⟩ := open_rowI h1
  refine ⟨(⟨y.toNat, o.toNat, xs⟩, c2), ?_, hxs, ?_, ?_⟩
  · simp only [apCells]
    rw [Int.toNat_of_nonneg k1.1, Int.toNat_of_nonneg k2.1]
  · show y.toNat < _; omega
  · show o.toNat < _; omega
instance : Inhabited AMv := ⟨⟨0, 0, []⟩⟩
theorem open_rowA {fuel : Nat} {v : Value} {x : DataW H × List MemPlace} (h : DataW.trod enc Tryd.prog w base (fun _ => true) held fuel 75 [v] = some x) : ∃ ms, RowA w.heap.size w v ms ∧ ms.length ≤ Rows.uptoBulk x.1 := by
  obtain ⟨n, N, C, D, hR, hC, hx⟩ := open_flat Tryd.underlying75 cells89 (by decide) h
  obtain ⟨Z, hZ⟩ := choose_lt (α := AP) (n := n) (p := fun i p => C i = apCells p ∧ RowI w.heap.size w p.2 p.1.to ∧ p.1.yes < 18446744073709551616 ∧ p.1.no < 18446744073709551616) (fun i hi => open_amove (hC i hi).1 (hC i hi).2)
  refine ⟨((List.range n).map Z).map Prod.fst, ⟨(List.range n).map Z, rfl, ?_, fun y hy => ?_⟩, by simpa using bulk_len hx⟩
  · rw [flatMap_congr_range (fun i hi => (hZ i hi).1)] at hR
    have e : aps ((List.range n).map Z) = (List.range n).flatMap fun i => apCells (Z i) := by simp [aps, List.flatMap_map]
    unfold RowP
    rw [e, List.length_map, List.length_range]
    exact hR
  · obtain ⟨i, hi, rfl⟩ := List.mem_map.1 hy
    exact (hZ i (List.mem_range.1 hi)).2
theorem open_ast {fuel : Nat} {cs : List Value} {x : DataW H × List MemPlace} (hl : cs.length = 2) (h : DataW.trod enc Tryd.prog w base (fun _ => true) held fuel 77 cs = some x) :
    ∃ s : SP, cs = spCells s ∧ RowA w.heap.size w s.2 s.1.2 ∧ s.1.2.length ≤ Rows.uptoBulk x.1 := by
  obtain ⟨c0, c1, rfl⟩ := two hl
  obtain ⟨z0, z1, n, rfl, _, h0, h1⟩ := trod_struct2 Tryd.underlying77 h
  replace h0 : DataW.trod enc Tryd.prog w base (fun _ => true) held n 4 (([c0, c1].drop 0).take (Tryd.prog.cellsOf 4)) = some z0 := h0
  replace h1 : DataW.trod enc Tryd.prog w base (fun _ => true) held n 75 (([c0, c1].drop 1).take (Tryd.prog.cellsOf 75)) = some z1 := h1
  simp only [cells4, cells75, List.drop_zero, List.take_succ_cons, List.take_zero, List.drop_succ_cons] at h0 h1
  obtain ⟨b, hb, _⟩ := DataW.trod_bool Tryd.underlying4 h0
  injection hb with hb _
  subst hb
  obtain ⟨ms, hms, hml⟩ := open_rowA h1
  refine ⟨((b, ms), c1), rfl, hms, ?_⟩
  simp only [Rows.uptoBulk, Rows.uptoBulkAll]
  omega
instance : Inhabited SP := ⟨((false, []), .slice none 0 0)⟩
theorem open_rowS {fuel : Nat} {v : Value} {x : DataW H × List MemPlace} (h : DataW.trod enc Tryd.prog w base (fun _ => true) held fuel 37 [v] = some x) : ∃ ss, RowS w.heap.size w v ss ∧ ss.length ≤ Rows.uptoBulk x.1 ∧ movesN ss ≤ Rows.uptoBulk x.1 := by
  obtain ⟨n, N, C, D, hR, hC, hx⟩ := open_flat Tryd.underlying37 cells77 (by decide) h
  obtain ⟨Z, hZ⟩ := choose_lt (α := SP) (n := n) (p := fun i s => C i = spCells s ∧ RowA w.heap.size w s.2 s.1.2 ∧ s.1.2.length ≤ Rows.uptoBulk (D i).1) (fun i hi => open_ast (hC i hi).1 (hC i hi).2)
  refine ⟨((List.range n).map Z).map Prod.fst, ⟨(List.range n).map Z, rfl, ?_, fun y hy => ?_⟩, by simpa using bulk_len hx, ?_⟩
  · rw [flatMap_congr_range (fun i hi => (hZ i hi).1)] at hR
    have e : sps ((List.range n).map Z) = (List.range n).flatMap fun i => spCells (Z i) := by simp [sps, List.flatMap_map]
    rw [e, List.length_map, List.length_range]
    exact hR
  · obtain ⟨i, hi, rfl⟩ := List.mem_map.1 hy
    exact (hZ i (List.mem_range.1 hi)).2.1
  · have := bulk_slice (fun i => (Z i).1.2.length) hx (fun i hi => (hZ i hi).2.2)
    unfold movesN
    rw [List.map_map, List.map_map]
    exact this
theorem open_rowII {fuel : Nat} {v : Value} {x : DataW H × List MemPlace} (h : DataW.trod enc Tryd.prog w base (fun _ => true) held fuel 36 [v] = some x) : ∃ l, RowII w.heap.size w v l ∧ l.length ≤ Rows.uptoBulk x.1 := by
  obtain ⟨n, N, C, D, hR, hC, hx⟩ := open_flat Tryd.underlying36 cells22 (by decide) h
  obtain ⟨Z, hZ⟩ := choose_lt (α := List Int) (n := n) (p := fun i z => ∃ u, C i = [u] ∧ RowI w.heap.size w u z) (fun i hi => by
    obtain ⟨h1, h2⟩ := hC i hi
    obtain ⟨u, hu⟩ := one h1
    rw [hu] at h2
    obtain ⟨xs, k1, _⟩ := open_rowI h2
    exact ⟨xs, u, hu, k1⟩)
  refine ⟨(List.range n).map Z, ⟨(List.range n).flatMap C, by simpa using hR, fun i hi => ?_⟩, by simpa using bulk_len hx⟩
  have hin : i < n := by simpa using hi
  obtain ⟨u, hu, hm⟩ := hZ i hin
  have := flat_at n C (fun i hi => (hC i hi).1) i hin 0 (by decide)
  rw [Nat.mul_one, Nat.add_zero, hu] at this
  exact ⟨u, this, by simpa using hm⟩
set_option maxRecDepth 100000 in
theorem open_alt {r : Reach} {b0 : Nat} {v : Value} {d : DataW H} {p : List MemPlace} (hv : Value.okWide Tryd.prog w r b0 39 v) (h : DataW.Trod enc Tryd.prog w base (fun _ => true) held 39 v d p) :
    ∃ a, AltAt w.heap.size w v a ∧ a.states.length ≤ Rows.uptoBulk d ∧ a.init.length + movesN a.states ≤ Rows.uptoBulk d := by
  obtain ⟨v0, v1, y0, y1, n, rfl, rfl, _, h0, h1⟩ := open_agg2 Tryd.underlying39 (by kernel_rfl) (by kernel_rfl) hv h
  obtain ⟨xs, hxs, hxl⟩ := open_rowII h0
  obtain ⟨ys, hys, hyl, hym⟩ := open_rowS h1
  refine ⟨⟨xs, ys⟩, ⟨_, _, rfl, hxs, hys⟩, ?_, ?_⟩ <;> simp only [Rows.uptoBulk, Rows.uptoBulkAll] <;> omega
end
end Go.Proofs.YtelanndleinabaaDoor
