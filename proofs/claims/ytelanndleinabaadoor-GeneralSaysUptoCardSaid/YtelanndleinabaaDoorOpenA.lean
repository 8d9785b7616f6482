/- OpenD, OpenA, joined. -/
import Derived.Test.YtelanndleinabaaDoorRows
import Derived.Test.YtelanndleinabaaDoorGChk
import Derived.ProofKit
import Derived.WalkKit
import Derived.Deep.Slices
import Derived.Lib.SmallJoins
import Derived.Test.YtelanndleinabaaDoorAChk
section
/- Automata and words as arguments, opened. -/
namespace Go.Proofs.YtelanndleinabaaDoor
open Go.RowKit Go.ChangeShapes Go.WideShapes Go.Deep Go.Joins
set_option linter.unusedVariables false

theorem flat_len {k : Nat} : ∀ (n : Nat) (C : Nat → List Value), (∀ i, i < n → (C i).length = k) → ((List.range n).flatMap C).length = n * k
  | 0, C, _ => by simp
  | n + 1, C, h => by
    rw [List.range_succ, List.flatMap_append, List.length_append, flat_len n C (fun i hi => h i (by omega))]
    simp only [List.flatMap_cons, List.flatMap_nil, List.append_nil]
    rw [h n (by omega), Nat.add_mul, Nat.one_mul]
theorem flat_at {k : Nat} : ∀ (n : Nat) (C : Nat → List Value), (∀ i, i < n → (C i).length = k) → ∀ i, i < n → ∀ j, j < k → ((List.range n).flatMap C)[i * k + j]? = (C i)[j]?
  | 0, C, _, i, hi, _, _ => by omega
  | n + 1, C, h, i, hi, j, hj => by
    rw [List.range_succ, List.flatMap_append]
    have hl := flat_len n C (fun i hi => h i (by omega))
    by_cases hin : i < n
    · have : (i + 1) * k ≤ n * k := Nat.mul_le_mul_right _ (by omega)
      rw [Nat.add_mul, Nat.one_mul] at this
      rw [List.getElem?_append_left (by rw [hl]; omega)]
      exact flat_at n C (fun i hi => h i (by omega)) i hin j hj
    · have : i = n := by omega
      subst this
      rw [List.getElem?_append_right (by rw [hl]; omega), hl]
      simp [List.flatMap_cons]
theorem flat_one (n : Nat) (C : Nat → List Value) (Z : Nat → Value) (h : ∀ i, i < n → C i = [Z i]) : (List.range n).flatMap C = (List.range n).map Z := by
  rw [flatMap_congr_range h]
  induction n with
  | zero => rfl
  | succ n ih => rw [List.range_succ, List.flatMap_append, List.map_append, ih (fun i hi => h i (by omega))]; rfl
section
variable {H : Type} {enc : TypeId × Value → H} {w : World} {base : Nat} {held : Bool}
theorem bulk_pos (d : DataW H) : 1 ≤ Rows.uptoBulk d := by
  cases d with
  | lit l => cases l <;> simp [Rows.uptoBulk]
  | _ => simp [Rows.uptoBulk]
theorem bulk_sum (D : Nat → DataW H) (L : Nat → Nat) : ∀ l : List Nat, (∀ i ∈ l, L i ≤ Rows.uptoBulk (D i)) → (l.map L).sum ≤ Rows.uptoBulkAll (l.map D)
  | [], _ => by simp [Rows.uptoBulkAll]
  | i :: l, h => by
    have := bulk_sum D L l (fun j hj => h j (List.mem_cons_of_mem _ hj))
    have := h i (List.mem_cons_self ..)
    simp only [List.map_cons, List.sum_cons, Rows.uptoBulkAll]
    omega
/-- A slice's elements, laid flat. -/
theorem open_flat {t e : TypeId} {k fuel : Nat} {v : Value} {x : DataW H × List MemPlace} (ht : Tryd.prog.underlying t = some (.slice e)) (hk : Tryd.prog.cellsOf e = k) (hk0 : 0 < k)
    (h : DataW.trod enc Tryd.prog w base (fun _ => true) held fuel t [v] = some x) :
    ∃ (n N : Nat) (C : Nat → List Value) (D : Nat → DataW H × List MemPlace), Row w.heap.size w k v n ((List.range n).flatMap C) ∧
      (∀ i, i < n → (C i).length = k ∧ DataW.trod enc Tryd.prog w base (fun _ => true) held N e (C i) = some (D i)) ∧
      ((∃ sp, x.1 = .slice ((List.range n).map fun i => (D i).1) sp) ∨ n = 0) := by
  rcases open_slice ht h with ⟨hcs, hx⟩ | ⟨a, len, cap, m, n, D, Pl, hcs, hb, hl, hm, hmm, hx, hi⟩
  · obtain rfl : v = .slice none 0 0 := by simpa using hcs
    exact ⟨0, 0, fun _ => [], fun _ => (.nil, []), by simpa using Row.nil w.heap.size w k, fun i hi => by omega, .inr rfl⟩
  · obtain rfl : v = .slice (some a) len cap := by simpa using hcs
    simp only [if_true] at hmm
    subst hmm
    obtain ⟨C, hC⟩ := choose_lt (α := List Value) (n := len) (p := fun i c => w.cells? base (a.add (i * Tryd.prog.cellsOf e)) (Tryd.prog.cellsOf e) = some c ∧ DataW.trod enc Tryd.prog w base (fun _ => true) held n e c = some (D i, Pl i)) (fun i hil => hi i (by omega))
    rw [hk] at hC
    have hCl : ∀ i, i < len → (C i).length = k := fun i hil => (World.cells?_some (hC i hil).1).2.1
    refine ⟨len, n, C, fun i => (D i, Pl i), ⟨some a, _, rfl, hl, hm, flat_len len C hCl, (fun h => by cases h), fun hn => ?_⟩, fun i hil => ⟨hCl i hil, (hC i hil).2⟩, .inl ⟨_, by rw [hx]⟩⟩
    have h0 := (World.cells?_some (hC 0 hn).1).2.2 0 hk0
    rw [Nat.zero_mul, Go.Deep.add_add] at h0
    have h1 : (C 0)[0]? = some ((C 0)[0]'(by rw [hCl 0 hn]; exact hk0)) := List.getElem?_eq_getElem _
    rw [h1] at h0
    have ha0 : a.add (0 + 0) = a := rfl
    rw [ha0] at h0
    obtain ⟨ab, ao, asp⟩ := a
    have hsp : asp = none := by
      cases asp with
      | none => rfl
      | some s =>
        unfold World.cell? at h0
        split at h0
        · simp at h0
        · cases h0
    subst hsp
    refine ⟨ab, ao, rfl, World.block_lt_of_cell? w _ h0, fun j hj => ?_⟩
    have hjd : j = (j / k) * k + j % k := by rw [Nat.mul_comm]; exact (Nat.div_add_mod j k).symm
    have hji : j / k < len := (Nat.div_lt_iff_lt_mul hk0).2 hj
    have hjr : j % k < k := Nat.mod_lt _ hk0
    have hc := (World.cells?_some (hC (j / k) hji).1).2.2 (j % k) hjr
    rw [Go.Deep.add_add, ← hjd, Addr.add_lit] at hc
    rw [hc]
    conv => rhs; rw [hjd]
    exact (flat_at len C hCl (j / k) hji (j % k) hjr).symm
theorem bulk_slice {n : Nat} {x : DataW H} {D : Nat → DataW H} (L : Nat → Nat) (hx : (∃ sp, x = .slice ((List.range n).map D) sp) ∨ n = 0) (h : ∀ i, i < n → L i ≤ Rows.uptoBulk (D i)) : ((List.range n).map L).sum ≤ Rows.uptoBulk x := by
  rcases hx with ⟨sp, rfl⟩ | rfl
  · have := bulk_sum D L (List.range n) (fun i hi => h i (List.mem_range.1 hi))
    simp only [Rows.uptoBulk]
    omega
  · simp
theorem sum_ones : ∀ n : Nat, ((List.range n).map fun _ => 1).sum = n
  | 0 => rfl
  | n + 1 => by rw [List.range_succ, List.map_append, List.sum_append, sum_ones n]; simp
theorem bulk_len {n : Nat} {x : DataW H} {D : Nat → DataW H} (hx : (∃ sp, x = .slice ((List.range n).map D) sp) ∨ n = 0) : n ≤ Rows.uptoBulk x := by
  have := bulk_slice (fun _ => 1) hx (fun i _ => bulk_pos _)
  rw [sum_ones] at this
  exact this
theorem cells3 : Tryd.prog.cellsOf 3 = 1 := by kernel_rfl
theorem cells49 : Tryd.prog.cellsOf 49 = 1 := by kernel_rfl
theorem cells51 : Tryd.prog.cellsOf 51 = 2 := by kernel_rfl
theorem cells53 : Tryd.prog.cellsOf 53 = 4 := by kernel_rfl
theorem cells48 : Tryd.prog.cellsOf 48 = 1 := by kernel_rfl
theorem wf_i64 {n : Int} (h : (Lit.int .i64 n).wf = true) : -9223372036854775808 ≤ n ∧ n ≤ 9223372036854775807 := by
  simp [Lit.wf, IntKind.min, IntKind.max, IntKind.signed, IntKind.bits] at h
  omega
theorem wf_u64 {n : Int} (h : (Lit.int .u64 n).wf = true) : 0 ≤ n ∧ n < 18446744073709551616 := by
  simp [Lit.wf, IntKind.min, IntKind.max, IntKind.signed, IntKind.bits] at h
  omega
theorem open_rowI {fuel : Nat} {v : Value} {x : DataW H × List MemPlace} (h : DataW.trod enc Tryd.prog w base (fun _ => true) held fuel 22 [v] = some x) : ∃ xs, RowI w.heap.size w v xs ∧ xs.length ≤ Rows.uptoBulk x.1 := by
  obtain ⟨n, N, C, D, hR, hC, hx⟩ := open_flat Tryd.underlying22 cells3 (by decide) h
  obtain ⟨Z, hZ⟩ := choose_lt (α := Int) (n := n) (p := fun i z => C i = [.int .i64 z] ∧ (Lit.int .i64 z).wf = true) (fun i hi => by
    obtain ⟨m, h1, _, h2⟩ := DataW.trod_int Tryd.underlying3 (hC i hi).2
    exact ⟨m, h1, h2⟩)
  refine ⟨(List.range n).map Z, ⟨?_, fun y hy => ?_⟩, by simpa using bulk_len hx⟩
  · rw [flat_one n C (fun i => .int .i64 (Z i)) (fun i hi => (hZ i hi).1)] at hR
    simpa [ints, List.map_map, Function.comp_def] using hR
  · obtain ⟨i, hi, rfl⟩ := List.mem_map.1 hy
    exact wf_i64 (hZ i (List.mem_range.1 hi)).2
theorem open_rowU {fuel : Nat} {v : Value} {x : DataW H × List MemPlace} (h : DataW.trod enc Tryd.prog w base (fun _ => true) held fuel 26 [v] = some x) : ∃ xs, RowU w.heap.size w v xs ∧ xs.length ≤ Rows.uptoBulk x.1 := by
  obtain ⟨n, N, C, D, hR, hC, hx⟩ := open_flat Tryd.underlying26 cells49 (by decide) h
  obtain ⟨Z, hZ⟩ := choose_lt (α := Nat) (n := n) (p := fun i z => C i = [.int .u64 (z : Int)] ∧ z < 18446744073709551616) (fun i hi => by
    obtain ⟨m, h1, _, h2⟩ := DataW.trod_int Tryd.underlying49 (hC i hi).2
    have := wf_u64 h2
    exact ⟨m.toNat, by rw [h1, Int.toNat_of_nonneg this.1], by omega⟩)
  refine ⟨(List.range n).map Z, ⟨?_, fun y hy => ?_⟩, by simpa using bulk_len hx⟩
  · rw [flat_one n C (fun i => .int .u64 (Z i : Int)) (fun i hi => (hZ i hi).1)] at hR
    simpa [u64s, List.map_map, Function.comp_def] using hR
  · obtain ⟨i, hi, rfl⟩ := List.mem_map.1 hy
    exact (hZ i (List.mem_range.1 hi)).2
theorem four {cs : List Value} (h : cs.length = 4) : ∃ a b c d, cs = [a, b, c, d] := by
  match cs, h with
  | [a, b, c, d], _ => exact ⟨a, b, c, d, rfl⟩
theorem open_move {fuel : Nat} {cs : List Value} {x : DataW H × List MemPlace} (hl : cs.length = 4) (h : DataW.trod enc Tryd.prog w base (fun _ => true) held fuel 53 cs = some x) : ∃ m : Mv, cs = m.cells ∧ m.wf := by
  obtain ⟨c0, c1, c2, c3, rfl⟩ := four hl
  obtain ⟨xs, n, _, _, _, hxl, hf⟩ := DataW.trod_struct Tryd.underlying53 h
  have h0 : DataW.trod enc Tryd.prog w base (fun _ => true) held n 51 (([c0, c1, c2, c3].drop 0).take (Tryd.prog.cellsOf 51)) = xs[0]? := hf 0 _ rfl
  have h1 : DataW.trod enc Tryd.prog w base (fun _ => true) held n 3 (([c0, c1, c2, c3].drop 2).take (Tryd.prog.cellsOf 3)) = xs[1]? := hf 1 _ rfl
  have h2 : DataW.trod enc Tryd.prog w base (fun _ => true) held n 49 (([c0, c1, c2, c3].drop 3).take (Tryd.prog.cellsOf 49)) = xs[2]? := hf 2 _ rfl
  simp only [cells51, cells3, cells49, List.drop_zero, List.take_succ_cons, List.take_zero, List.drop_succ_cons] at h0 h1 h2
  have hxl' : xs.length = 3 := hxl
  rw [List.getElem?_eq_getElem (by omega)] at h0 h1 h2
  obtain ⟨t, e2, _, ht⟩ := DataW.trod_int Tryd.underlying3 h1
  obtain ⟨z, e3, _, hz⟩ := DataW.trod_int Tryd.underlying49 h2
  injection e2 with e2 _
  injection e3 with e3 _
  subst e2 e3
  obtain ⟨ys, n', _, _, _, hyl, hg⟩ := DataW.trod_struct Tryd.underlying51 h0
  have g0 : DataW.trod enc Tryd.prog w base (fun _ => true) held n' 49 (([c0, c1].drop 0).take (Tryd.prog.cellsOf 49)) = ys[0]? := hg 0 _ rfl
  have g1 : DataW.trod enc Tryd.prog w base (fun _ => true) held n' 49 (([c0, c1].drop 1).take (Tryd.prog.cellsOf 49)) = ys[1]? := hg 1 _ rfl
  simp only [cells49, List.drop_zero, List.take_succ_cons, List.take_zero, List.drop_succ_cons] at g0 g1
  have hyl' : ys.length = 2 := hyl
  rw [List.getElem?_eq_getElem (by omega)] at g0 g1
  obtain ⟨y, hy, _, hyw⟩ := DataW.trod_int Tryd.underlying49 g0
  obtain ⟨o, ho, _, how⟩ := DataW.trod_int Tryd.underlying49 g1
  injection hy with hy _
  injection ho with ho _
  subst hy ho
  have k1 := wf_u64 hyw
  have k2 := wf_u64 how
  have k3 := wf_u64 hz
  refine ⟨⟨y.toNat, o.toNat, t, z.toNat⟩, ?_, ?_, ?_, wf_i64 ht, ?_⟩
  · simp only [Mv.cells]
    rw [Int.toNat_of_nonneg k1.1, Int.toNat_of_nonneg k2.1, Int.toNat_of_nonneg k3.1]
  · show y.toNat < _; omega
  · show o.toNat < _; omega
  · show z.toNat < _; omega
instance : Inhabited Mv := ⟨⟨0, 0, 0, 0⟩⟩
theorem open_rowM {fuel : Nat} {v : Value} {x : DataW H × List MemPlace} (h : DataW.trod enc Tryd.prog w base (fun _ => true) held fuel 48 [v] = some x) : ∃ ms, RowM w.heap.size w v ms ∧ ms.length ≤ Rows.uptoBulk x.1 := by
  obtain ⟨n, N, C, D, hR, hC, hx⟩ := open_flat Tryd.underlying48 cells53 (by decide) h
  obtain ⟨Z, hZ⟩ := choose_lt (α := Mv) (n := n) (p := fun i z => C i = z.cells ∧ z.wf) (fun i hi => open_move (hC i hi).1 (hC i hi).2)
  refine ⟨(List.range n).map Z, ⟨?_, fun y hy => ?_⟩, by simpa using bulk_len hx⟩
  · rw [flatMap_congr_range (fun i hi => (hZ i hi).1)] at hR
    have e : mvs ((List.range n).map Z) = (List.range n).flatMap fun i => (Z i).cells := by simp [mvs, List.flatMap_map]
    rw [e, List.length_map, List.length_range]
    exact hR
  · obtain ⟨i, hi, rfl⟩ := List.mem_map.1 hy
    exact (hZ i (List.mem_range.1 hi)).2
theorem open_rowMM {fuel : Nat} {v : Value} {x : DataW H × List MemPlace} (h : DataW.trod enc Tryd.prog w base (fun _ => true) held fuel 23 [v] = some x) : ∃ l, RowMM w.heap.size w v l ∧ l.length ≤ Rows.uptoBulk x.1 ∧ (l.map List.length).sum ≤ Rows.uptoBulk x.1 := by
  obtain ⟨n, N, C, D, hR, hC, hx⟩ := open_flat Tryd.underlying23 cells48 (by decide) h
  obtain ⟨Z, hZ⟩ := choose_lt (α := List Mv) (n := n) (p := fun i z => ∃ u, C i = [u] ∧ RowM w.heap.size w u z ∧ z.length ≤ Rows.uptoBulk (D i).1) (fun i hi => by
    obtain ⟨h1, h2⟩ := hC i hi
    obtain ⟨u, hu⟩ : ∃ u, C i = [u] := by
      match hc : C i, h1 with
      | [u], _ => exact ⟨u, rfl⟩
    rw [hu] at h2
    obtain ⟨ms, k1, k2⟩ := open_rowM h2
    exact ⟨ms, u, hu, k1, k2⟩)
  refine ⟨(List.range n).map Z, ⟨(List.range n).flatMap C, by simpa using hR, fun i hi => ?_⟩, by simpa using bulk_len hx, ?_⟩
  · have hin : i < n := by simpa using hi
    obtain ⟨u, hu, hm, _⟩ := hZ i hin
    have := flat_at n C (fun i hi => (hC i hi).1) i hin 0 (by decide)
    rw [Nat.mul_one, Nat.add_zero, hu] at this
    exact ⟨u, this, by simpa using hm⟩
  · rw [List.map_map]
    exact bulk_slice (fun i => (Z i).length) hx (fun i hi => by obtain ⟨u, _, _, hb⟩ := hZ i hi; exact hb)
set_option maxRecDepth 100000 in
theorem open_gen {r : Reach} {b0 : Nat} {v : Value} {d : DataW H} {p : List MemPlace} (hv : Value.okWide Tryd.prog w r b0 25 v) (h : DataW.Trod enc Tryd.prog w base (fun _ => true) held 25 v d p) :
    ∃ g, GenAt w.heap.size w v g ∧ g.states.length ≤ Rows.uptoBulk d ∧ (g.states.map List.length).sum ≤ Rows.uptoBulk d ∧ g.init.length ≤ Rows.uptoBulk d := by
  obtain ⟨v0, v1, v2, y0, y1, y2, n, rfl, rfl, _, h0, h1, h2⟩ := open_agg3 Tryd.underlying25 (by kernel_rfl) (by kernel_rfl) hv h
  obtain ⟨s, hs, _, hw⟩ := DataW.trod_int Tryd.underlying3 h0
  injection hs with hs _
  subst hs
  obtain ⟨xs, hxs, hxl⟩ := open_rowI h1
  obtain ⟨l, hl, hl1, hl2⟩ := open_rowMM h2
  refine ⟨⟨s, xs, l⟩, ⟨_, _, rfl, wf_i64 hw, hxs, hl⟩, ?_, ?_, ?_⟩ <;> simp only [Rows.uptoBulk, Rows.uptoBulkAll] <;> omega
set_option maxRecDepth 100000 in
theorem open_las {r : Reach} {b0 : Nat} {v : Value} {d : DataW H} {p : List MemPlace} (hv : Value.okWide Tryd.prog w r b0 28 v) (h : DataW.Trod enc Tryd.prog w base (fun _ => true) held 28 v d p) :
    ∃ l, LasAt w.heap.size w v l ∧ l.pre.length + l.loop.length ≤ Rows.uptoBulk d := by
  obtain ⟨v0, v1, y0, y1, n, rfl, rfl, _, h0, h1⟩ := open_agg2 Tryd.underlying28 (by kernel_rfl) (by kernel_rfl) hv h
  obtain ⟨xs, hxs, hxl⟩ := open_rowU h0
  obtain ⟨ys, hys, hyl⟩ := open_rowU h1
  refine ⟨⟨xs, ys⟩, ⟨_, _, rfl, hxs, hys⟩, ?_⟩
  simp only [Rows.uptoBulk, Rows.uptoBulkAll]
  omega
end
end Go.Proofs.YtelanndleinabaaDoor
end
section
/- Alternating automata as arguments, opened. -/
namespace Go.Proofs.YtelanndleinabaaDoor
open Go.RowKit Go.ChangeShapes Go.WideShapes Go.Deep Go.Joins
set_option linter.unusedVariables false
section
variable {H : Type} {enc : TypeId × Value → H} {w : World} {base : Nat} {held : Bool}
theorem cells22 : Tryd.prog.cellsOf 22 = 1 := by kernel_rfl
theorem cells4 : Tryd.prog.cellsOf 4 = 1 := by kernel_rfl
theorem cells75 : Tryd.prog.cellsOf 75 = 1 := by kernel_rfl
theorem cells77 : Tryd.prog.cellsOf 77 = 2 := by kernel_rfl
theorem cells89 : Tryd.prog.cellsOf 89 = 3 := by kernel_rfl
theorem three {cs : List Value} (h : cs.length = 3) : ∃ a b c, cs = [a, b, c] := by
  match cs, h with
  | [a, b, c], _ => exact ⟨a, b, c, rfl⟩
theorem two {cs : List Value} (h : cs.length = 2) : ∃ a b, cs = [a, b] := by
  match cs, h with
  | [a, b], _ => exact ⟨a, b, rfl⟩
theorem one {cs : List Value} (h : cs.length = 1) : ∃ a, cs = [a] := by
  match cs, h with
  | [a], _ => exact ⟨a, rfl⟩
theorem open_amove {fuel : Nat} {cs : List Value} {x : DataW H × List MemPlace} (hl : cs.length = 3) (h : DataW.trod enc Tryd.prog w base (fun _ => true) held fuel 89 cs = some x) :
    ∃ p : AP, cs = apCells p ∧ RowI w.heap.size w p.2 p.1.to ∧ p.1.yes < 18446744073709551616 ∧ p.1.no < 18446744073709551616 := by
  obtain ⟨c0, c1, c2, rfl⟩ := three hl
  obtain ⟨z0, z1, n, _, _, h0, h1⟩ := trod_struct2 Tryd.underlying89 h
  replace h0 : DataW.trod enc Tryd.prog w base (fun _ => true) held n 51 (([c0, c1, c2].drop 0).take (Tryd.prog.cellsOf 51)) = some z0 := h0
  replace h1 : DataW.trod enc Tryd.prog w base (fun _ => true) held n 22 (([c0, c1, c2].drop 2).take (Tryd.prog.cellsOf 22)) = some z1 := h1
  simp only [cells51, cells22, List.drop_zero, List.take_succ_cons, List.take_zero, List.drop_succ_cons] at h0 h1
  obtain ⟨y0, y1, n', _, _, g0, g1⟩ := trod_struct2 Tryd.underlying51 h0
  replace g0 : DataW.trod enc Tryd.prog w base (fun _ => true) held n' 49 (([c0, c1].drop 0).take (Tryd.prog.cellsOf 49)) = some y0 := g0
  replace g1 : DataW.trod enc Tryd.prog w base (fun _ => true) held n' 49 (([c0, c1].drop 1).take (Tryd.prog.cellsOf 49)) = some y1 := g1
  simp only [cells49, List.drop_zero, List.take_succ_cons, List.take_zero, List.drop_succ_cons] at g0 g1
  obtain ⟨y, hy, _, hyw⟩ := DataW.trod_int Tryd.underlying49 g0
  obtain ⟨o, ho, _, how⟩ := DataW.trod_int Tryd.underlying49 g1
  injection hy with hy _
  injection ho with ho _
  subst hy ho
  have k1 := wf_u64 hyw
  have k2 := wf_u64 how
  obtain ⟨xs, hxs, _⟩ := open_rowI h1
  refine ⟨(⟨y.toNat, o.toNat, xs⟩, c2), ?_, hxs, ?_, ?_⟩
  · simp only [apCells]
    rw [Int.toNat_of_nonneg k1.1, Int.toNat_of_nonneg k2.1]
  · show y.toNat < _; omega
  · show o.toNat < _; omega
instance : Inhabited AMv := ⟨⟨0, 0, []⟩⟩
theorem open_rowA {fuel : Nat} {v : Value} {x : DataW H × List MemPlace} (h : DataW.trod enc Tryd.prog w base (fun _ => true) held fuel 75 [v] = some x) : ∃ ms, RowA w.heap.size w v ms ∧ ms.length ≤ Rows.uptoBulk x.1 := by
  obtain ⟨n, N, C, D, hR, hC, hx⟩ := open_flat Tryd.underlying75 cells89 (by decide) h
  obtain ⟨Z, hZ⟩ := choose_lt (α := AP) (n := n) (p := fun i p => C i = apCells p ∧ RowI w.heap.size w p.2 p.1.to ∧ p.1.yes < 18446744073709551616 ∧ p.1.no < 18446744073709551616) (fun i hi => open_amove (hC i hi).1 (hC i hi).2)
  refine ⟨((List.range n).map Z).map Prod.fst, ⟨(List.range n).map Z, rfl, ?_, fun y hy => ?_⟩, by simpa using bulk_len hx⟩
  · rw [flatMap_congr_range (fun i hi => (hZ i hi).1)] at hR
    have e : aps ((List.range n).map Z) = (List.range n).flatMap fun i => apCells (Z i) := by simp [aps, List.flatMap_map]
    unfold RowP
    rw [e, List.length_map, List.length_range]
    exact hR
  · obtain ⟨i, hi, rfl⟩ := List.mem_map.1 hy
    exact (hZ i (List.mem_range.1 hi)).2
theorem open_ast {fuel : Nat} {cs : List Value} {x : DataW H × List MemPlace} (hl : cs.length = 2) (h : DataW.trod enc Tryd.prog w base (fun _ => true) held fuel 77 cs = some x) :
    ∃ s : SP, cs = spCells s ∧ RowA w.heap.size w s.2 s.1.2 ∧ s.1.2.length ≤ Rows.uptoBulk x.1 := by
  obtain ⟨c0, c1, rfl⟩ := two hl
  obtain ⟨z0, z1, n, rfl, _, h0, h1⟩ := trod_struct2 Tryd.underlying77 h
  replace h0 : DataW.trod enc Tryd.prog w base (fun _ => true) held n 4 (([c0, c1].drop 0).take (Tryd.prog.cellsOf 4)) = some z0 := h0
  replace h1 : DataW.trod enc Tryd.prog w base (fun _ => true) held n 75 (([c0, c1].drop 1).take (Tryd.prog.cellsOf 75)) = some z1 := h1
  simp only [cells4, cells75, List.drop_zero, List.take_succ_cons, List.take_zero, List.drop_succ_cons] at h0 h1
  obtain ⟨b, hb, _⟩ := DataW.trod_bool Tryd.underlying4 h0
  injection hb with hb _
  subst hb
  obtain ⟨ms, hms, hml⟩ := open_rowA h1
  refine ⟨((b, ms), c1), rfl, hms, ?_⟩
  simp only [Rows.uptoBulk, Rows.uptoBulkAll]
  omega
instance : Inhabited SP := ⟨((false, []), .slice none 0 0)⟩
theorem open_rowS {fuel : Nat} {v : Value} {x : DataW H × List MemPlace} (h : DataW.trod enc Tryd.prog w base (fun _ => true) held fuel 37 [v] = some x) : ∃ ss, RowS w.heap.size w v ss ∧ ss.length ≤ Rows.uptoBulk x.1 ∧ movesN ss ≤ Rows.uptoBulk x.1 := by
  obtain ⟨n, N, C, D, hR, hC, hx⟩ := open_flat Tryd.underlying37 cells77 (by decide) h
  obtain ⟨Z, hZ⟩ := choose_lt (α := SP) (n := n) (p := fun i s => C i = spCells s ∧ RowA w.heap.size w s.2 s.1.2 ∧ s.1.2.length ≤ Rows.uptoBulk (D i).1) (fun i hi => open_ast (hC i hi).1 (hC i hi).2)
  refine ⟨((List.range n).map Z).map Prod.fst, ⟨(List.range n).map Z, rfl, ?_, fun y hy => ?_⟩, by simpa using bulk_len hx, ?_⟩
  · rw [flatMap_congr_range (fun i hi => (hZ i hi).1)] at hR
    have e : sps ((List.range n).map Z) = (List.range n).flatMap fun i => spCells (Z i) := by simp [sps, List.flatMap_map]
    rw [e, List.length_map, List.length_range]
    exact hR
  · obtain ⟨i, hi, rfl⟩ := List.mem_map.1 hy
    exact (hZ i (List.mem_range.1 hi)).2.1
  · have := bulk_slice (fun i => (Z i).1.2.length) hx (fun i hi => (hZ i hi).2.2)
    unfold movesN
    rw [List.map_map, List.map_map]
    exact this
theorem open_rowII {fuel : Nat} {v : Value} {x : DataW H × List MemPlace} (h : DataW.trod enc Tryd.prog w base (fun _ => true) held fuel 36 [v] = some x) : ∃ l, RowII w.heap.size w v l ∧ l.length ≤ Rows.uptoBulk x.1 := by
  obtain ⟨n, N, C, D, hR, hC, hx⟩ := open_flat Tryd.underlying36 cells22 (by decide) h
  obtain ⟨Z, hZ⟩ := choose_lt (α := List Int) (n := n) (p := fun i z => ∃ u, C i = [u] ∧ RowI w.heap.size w u z) (fun i hi => by
    obtain ⟨h1, h2⟩ := hC i hi
    obtain ⟨u, hu⟩ := one h1
    rw [hu] at h2
    obtain ⟨xs, k1, _⟩ := open_rowI h2
    exact ⟨xs, u, hu, k1⟩)
  refine ⟨(List.range n).map Z, ⟨(List.range n).flatMap C, by simpa using hR, fun i hi => ?_⟩, by simpa using bulk_len hx⟩
  have hin : i < n := by simpa using hi
  obtain ⟨u, hu, hm⟩ := hZ i hin
  have := flat_at n C (fun i hi => (hC i hi).1) i hin 0 (by decide)
  rw [Nat.mul_one, Nat.add_zero, hu] at this
  exact ⟨u, this, by simpa using hm⟩
set_option maxRecDepth 100000 in
theorem open_alt {r : Reach} {b0 : Nat} {v : Value} {d : DataW H} {p : List MemPlace} (hv : Value.okWide Tryd.prog w r b0 39 v) (h : DataW.Trod enc Tryd.prog w base (fun _ => true) held 39 v d p) :
    ∃ a, AltAt w.heap.size w v a ∧ a.states.length ≤ Rows.uptoBulk d ∧ a.init.length + movesN a.states ≤ Rows.uptoBulk d := by
  obtain ⟨v0, v1, y0, y1, n, rfl, rfl, _, h0, h1⟩ := open_agg2 Tryd.underlying39 (by kernel_rfl) (by kernel_rfl) hv h
  obtain ⟨xs, hxs, hxl⟩ := open_rowII h0
  obtain ⟨ys, hys, hyl, hym⟩ := open_rowS h1
  refine ⟨⟨xs, ys⟩, ⟨_, _, rfl, hxs, hys⟩, ?_, ?_⟩ <;> simp only [Rows.uptoBulk, Rows.uptoBulkAll] <;> omega
end
end Go.Proofs.YtelanndleinabaaDoor
end
