/- Graphs as arguments, opened. -/
import Derived.Test.YtpednhcfkjjcpaaRows
import Derived.Test.YtpednhcfkjjcpaaChk
import Derived.ProofKit
import Derived.WalkKit
import Derived.Deep.Slices
import Derived.Lib.SmallJoins
namespace Go.Proofs.Ytpednhcfkjjcpaa
open Go.RowKit Go.ChangeShapes Go.WideShapes Go.Deep Go.Joins
set_option linter.unusedVariables false

theorem flat_len {k : Nat} : ∀ (n : Nat) (C : Nat → List Value), (∀ i, i < n → (C i).length = k) → ((List.range n).flatMap C).length = n * k
  | 0, C, _ => by simp
  | n + 1, C, h => by
    rw [List.range_succ, List.flatMap_append, List.length_append, flat_len n C (fun i hi => h i (by omega))]
    simp only [List.flatMap_cons, List.flatMap_nil, List.append_nil]
    rw [h n (by omega), Nat.add_mul, Nat.one_mul]
theorem flat_at {k : Nat} : ∀ (n : Nat) (C : Nat → List Value), (∀ i, i < n → (C i).length = k) → ∀ i, i < n → ∀ j, j < k → ((List.range n).flatMap C)[i * k + j]? = (C i)[j]?
  | 0, C, _, i, hi, _, _ => by omega
  | n + 1, C, h, i, hi, j, hj => by
    rw [List.range_succ, List.flatMap_append]
    have hl := flat_len n C (fun i hi => h i (by omega))
    by_cases hin : i < n
    · have : (i + 1) * k ≤ n * k := Nat.mul_le_mul_right _ (by omega)
      rw [Nat.add_mul, Nat.one_mul] at this
      rw [List.getElem?_append_left (by rw [hl]; omega)]
      exact flat_at n C (fun i hi => h i (by omega)) i hin j hj
    · have : i = n := by omega
      subst this
      rw [List.getElem?_append_right (by rw [hl]; omega), hl]
      simp [List.flatMap_cons]
theorem flat_one (n : Nat) (C : Nat → List Value) (Z : Nat → Value) (h : ∀ i, i < n → C i = [Z i]) : (List.range n).flatMap C = (List.range n).map Z := by
  rw [flatMap_congr_range h]
  induction n with
  | zero => rfl
  | succ n ih => rw [List.range_succ, List.flatMap_append, List.map_append, ih (fun i hi => h i (by omega))]; rfl
theorem flat_ls {A : Type} {F : (Nat → Prop) → World → A → List Value → Prop} {P : Nat → Prop} {w : World} (Z : Nat → A) : ∀ (n : Nat) (C : Nat → List Value), (∀ i, i < n → F P w (Z i) (C i)) → LsF F P w ((List.range n).map Z) ((List.range n).flatMap C)
  | 0, C, _ => rfl
  | n + 1, C, h => by
    rw [List.range_succ, List.flatMap_append, List.map_append]
    refine LsF.append (flat_ls Z n C fun i hi => h i (by omega)) ?_
    simp only [List.flatMap_cons, List.flatMap_nil, List.append_nil, List.map_cons, List.map_nil]
    exact LsF.sing (h n (by omega))
section
variable {H : Type} {enc : TypeId × Value → H} {w : World} {base : Nat} {held : Bool}
theorem bulk_pos (d : DataW H) : 1 ≤ Rows.uptoBulk d := by
  cases d with
  | lit l => cases l <;> simp [Rows.uptoBulk]
  | _ => simp [Rows.uptoBulk]
theorem bulk_sum (D : Nat → DataW H) (L : Nat → Nat) : ∀ l : List Nat, (∀ i ∈ l, L i ≤ Rows.uptoBulk (D i)) → (l.map L).sum ≤ Rows.uptoBulkAll (l.map D)
  | [], _ => by simp [Rows.uptoBulkAll]
  | i :: l, h => by
    have := bulk_sum D L l (fun j hj => h j (List.mem_cons_of_mem _ hj))
    have := h i (List.mem_cons_self ..)
    simp only [List.map_cons, List.sum_cons, Rows.uptoBulkAll]
    omega
theorem le_sum (L : Nat → Nat) : ∀ {l : List Nat} {i : Nat}, i ∈ l → L i ≤ (l.map L).sum
  | a :: l, i, h => by
    simp only [List.map_cons, List.sum_cons]
    rcases List.mem_cons.1 h with rfl | h
    · omega
    · have := le_sum L h
      omega
/-- A slice's elements, laid flat. -/
theorem open_flat {t e : TypeId} {k fuel : Nat} {v : Value} {x : DataW H × List MemPlace} (ht : Try.prog.underlying t = some (.slice e)) (hk : Try.prog.cellsOf e = k) (hk0 : 0 < k)
    (h : DataW.trod enc Try.prog w base (fun _ => true) held fuel t [v] = some x) :
    ∃ (n N : Nat) (C : Nat → List Value) (D : Nat → DataW H × List MemPlace), RowL (fun _ => True) w k v n ((List.range n).flatMap C) ∧
      (∀ i, i < n → (C i).length = k ∧ DataW.trod enc Try.prog w base (fun _ => true) held N e (C i) = some (D i)) ∧
      ((∃ sp, x.1 = .slice ((List.range n).map fun i => (D i).1) sp) ∨ n = 0) := by
  rcases open_slice ht h with ⟨hcs, hx⟩ | ⟨a, len, cap, m, n, D, Pl, hcs, hb, hl, hm, hmm, hx, hi⟩
  · obtain rfl : v = .slice none 0 0 := by simpa using hcs
    exact ⟨0, 0, fun _ => [], fun _ => (.nil, []), by simpa using RowL.nil (fun _ => True) w k, fun i hi => by omega, .inr rfl⟩
  · obtain rfl : v = .slice (some a) len cap := by simpa using hcs
    simp only [if_true] at hmm
    subst hmm
    obtain ⟨C, hC⟩ := choose_lt (α := List Value) (n := len) (p := fun i c => w.cells? base (a.add (i * Try.prog.cellsOf e)) (Try.prog.cellsOf e) = some c ∧ DataW.trod enc Try.prog w base (fun _ => true) held n e c = some (D i, Pl i)) (fun i hil => hi i (by omega))
    rw [hk] at hC
    have hCl : ∀ i, i < len → (C i).length = k := fun i hil => (World.cells?_some (hC i hil).1).2.1
    refine ⟨len, n, C, fun i => (D i, Pl i), ⟨some a, _, rfl, hl, by unfold maxLen at hm; omega, flat_len len C hCl, (fun h => by cases h), fun hn => ?_⟩, fun i hil => ⟨hCl i hil, (hC i hil).2⟩, .inl ⟨_, by rw [hx]⟩⟩
    have h0 := (World.cells?_some (hC 0 hn).1).2.2 0 hk0
    rw [Nat.zero_mul, Go.Deep.add_add] at h0
    have h1 : (C 0)[0]? = some ((C 0)[0]'(by rw [hCl 0 hn]; exact hk0)) := List.getElem?_eq_getElem _
    rw [h1] at h0
    have ha0 : a.add (0 + 0) = a := rfl
    rw [ha0] at h0
    obtain ⟨ab, ao, asp⟩ := a
    have hsp : asp = none := by
      cases asp with
      | none => rfl
      | some s =>
        unfold World.cell? at h0
        split at h0
        · simp at h0
        · cases h0
    subst hsp
    obtain ⟨cs, t, fr, hobj⟩ : ∃ (cs : Array Value) (t : TypeId) (fr : Nat × Nat), w.heap[ab]? = some (.cells cs t fr) := by
      unfold World.cell? at h0
      split at h0
      · rename_i hh; exact ⟨_, _, _, hh⟩
      · cases h0
    have hR : HoldsR w ab t cs.toList := ⟨fr, by simpa using hobj⟩
    refine ⟨ab, ao, cs.toList, t, rfl, trivial, hR, fun j hj => ?_⟩
    have hjd : j = (j / k) * k + j % k := by rw [Nat.mul_comm]; exact (Nat.div_add_mod j k).symm
    have hji : j / k < len := (Nat.div_lt_iff_lt_mul hk0).2 hj
    have hjr : j % k < k := Nat.mod_lt _ hk0
    have hc := (World.cells?_some (hC (j / k) hji).1).2.2 (j % k) hjr
    rw [Go.Deep.add_add, ← hjd, Addr.add_lit] at hc
    rw [← hR.cell, hc]
    conv => rhs; rw [hjd]
    exact (flat_at len C hCl (j / k) hji (j % k) hjr).symm
theorem bulk_slice {n : Nat} {x : DataW H} {D : Nat → DataW H} (L : Nat → Nat) (hx : (∃ sp, x = .slice ((List.range n).map D) sp) ∨ n = 0) (h : ∀ i, i < n → L i ≤ Rows.uptoBulk (D i)) : ((List.range n).map L).sum ≤ Rows.uptoBulk x := by
  rcases hx with ⟨sp, rfl⟩ | rfl
  · have := bulk_sum D L (List.range n) (fun i hi => h i (List.mem_range.1 hi))
    simp only [Rows.uptoBulk]
    omega
  · simp
theorem sum_ones : ∀ n : Nat, ((List.range n).map fun _ => 1).sum = n
  | 0 => rfl
  | n + 1 => by rw [List.range_succ, List.map_append, List.sum_append, sum_ones n]; simp
theorem bulk_len {n : Nat} {x : DataW H} {D : Nat → DataW H} (hx : (∃ sp, x = .slice ((List.range n).map D) sp) ∨ n = 0) : n ≤ Rows.uptoBulk x := by
  have := bulk_slice (fun _ => 1) hx (fun i _ => bulk_pos _)
  rw [sum_ones] at this
  exact this
theorem cells_int : Try.prog.cellsOf 3 = 1 := by kernel_rfl
theorem cells_u64 : Try.prog.cellsOf 25 = 1 := by kernel_rfl
theorem cells_bool : Try.prog.cellsOf 4 = 1 := by kernel_rfl
theorem cells_ints : Try.prog.cellsOf 47 = 1 := by kernel_rfl
theorem cells_arc : Try.prog.cellsOf 86 = 6 := by kernel_rfl
theorem cells_arcs : Try.prog.cellsOf 79 = 1 := by kernel_rfl
theorem cells_node : Try.prog.cellsOf 81 = 5 := by kernel_rfl
theorem cells_nodes : Try.prog.cellsOf 22 = 1 := by kernel_rfl
theorem wf_u64 {n : Int} (h : (Lit.int .u64 n).wf = true) : 0 ≤ n ∧ n < 18446744073709551616 := by
  simp [Lit.wf, IntKind.min, IntKind.max, IntKind.signed, IntKind.bits] at h
  omega
theorem open_rowI {fuel : Nat} {v : Value} {x : DataW H × List MemPlace} (h : DataW.trod enc Try.prog w base (fun _ => true) held fuel 47 [v] = some x) : ∃ xs : List Int, RowL (fun _ => True) w 1 v xs.length (xs.map intV) ∧ xs.length ≤ Rows.uptoBulk x.1 := by
  obtain ⟨n, N, C, D, hR, hC, hx⟩ := open_flat Try.underlying47 cells_int (by decide) h
  obtain ⟨Z, hZ⟩ := choose_lt (α := Int) (n := n) (p := fun i z => C i = [.int .i64 z]) (fun i hi => by
    obtain ⟨m, h1, _, h2⟩ := DataW.trod_int Try.underlying3 (hC i hi).2
    exact ⟨m, h1⟩)
  refine ⟨(List.range n).map Z, ?_, by simpa using bulk_len hx⟩
  rw [flat_one n C (fun i => .int .i64 (Z i)) (fun i hi => hZ i hi)] at hR
  have e : ((List.range n).map Z).map intV = (List.range n).map fun i => .int .i64 (Z i) := by rw [List.map_map]; rfl
  rw [e, List.length_map, List.length_range]
  exact hR
theorem six {cs : List Value} (h : cs.length = 6) : ∃ a b c d e f, cs = [a, b, c, d, e, f] := by
  match cs, h with
  | [a, b, c, d, e, f], _ => exact ⟨a, b, c, d, e, f, rfl⟩
theorem five {cs : List Value} (h : cs.length = 5) : ∃ a b c d e, cs = [a, b, c, d, e] := by
  match cs, h with
  | [a, b, c, d, e], _ => exact ⟨a, b, c, d, e, rfl⟩
instance : Inhabited PArc := ⟨⟨0, 0, 0, [], [], 0⟩⟩
instance : Inhabited PNode := ⟨⟨[], 0, false, false, false⟩⟩
theorem bulk_field (D : List (DataW H)) {d : DataW H} (h : d ∈ D) : Rows.uptoBulk d ≤ Rows.uptoBulkAll D := by
  induction D with
  | nil => cases h
  | cons a l ih =>
    simp only [Rows.uptoBulkAll]
    rcases List.mem_cons.1 h with rfl | h
    · omega
    · have := ih h; omega
set_option maxRecDepth 100000 in
theorem open_arc {fuel : Nat} {cs : List Value} {x : DataW H × List MemPlace} (hl : cs.length = 6) (h : DataW.trod enc Try.prog w base (fun _ => true) held fuel 86 cs = some x) :
    ∃ a : PArc, ArcF (fun _ => True) w a cs ∧ a.reads.length ≤ Rows.uptoBulk x.1 ∧ a.writes.length ≤ Rows.uptoBulk x.1 ∧ a.turns < 18446744073709551616 := by
  obtain ⟨c0, c1, c2, c3, c4, c5, rfl⟩ := six hl
  obtain ⟨xs, n, _, hx1, _, hxl, hf⟩ := DataW.trod_struct Try.underlying86 h
  have h0 : DataW.trod enc Try.prog w base (fun _ => true) held n 3 (([c0, c1, c2, c3, c4, c5].drop 0).take (Try.prog.cellsOf 3)) = xs[0]? := hf 0 _ rfl
  have h1 : DataW.trod enc Try.prog w base (fun _ => true) held n 3 (([c0, c1, c2, c3, c4, c5].drop 1).take (Try.prog.cellsOf 3)) = xs[1]? := hf 1 _ rfl
  have h2 : DataW.trod enc Try.prog w base (fun _ => true) held n 3 (([c0, c1, c2, c3, c4, c5].drop 2).take (Try.prog.cellsOf 3)) = xs[2]? := hf 2 _ rfl
  have h3 : DataW.trod enc Try.prog w base (fun _ => true) held n 47 (([c0, c1, c2, c3, c4, c5].drop 3).take (Try.prog.cellsOf 47)) = xs[3]? := hf 3 _ rfl
  have h4 : DataW.trod enc Try.prog w base (fun _ => true) held n 47 (([c0, c1, c2, c3, c4, c5].drop 4).take (Try.prog.cellsOf 47)) = xs[4]? := hf 4 _ rfl
  have h5 : DataW.trod enc Try.prog w base (fun _ => true) held n 25 (([c0, c1, c2, c3, c4, c5].drop 5).take (Try.prog.cellsOf 25)) = xs[5]? := hf 5 _ rfl
  have hxl' : xs.length = 6 := hxl
  simp only [cells_int, cells_ints, cells_u64, List.drop_zero, List.take_succ_cons, List.take_zero, List.drop_succ_cons] at h0 h1 h2 h3 h4 h5
  rw [List.getElem?_eq_getElem (by omega)] at h0 h1 h2 h3 h4 h5
  obtain ⟨p, e0, _, _⟩ := DataW.trod_int Try.underlying3 h0
  obtain ⟨q, e1, _, _⟩ := DataW.trod_int Try.underlying3 h1
  obtain ⟨b, e2, _, _⟩ := DataW.trod_int Try.underlying3 h2
  obtain ⟨z, e5, _, hz⟩ := DataW.trod_int Try.underlying25 h5
  injection e0 with e0 _
  injection e1 with e1 _
  injection e2 with e2 _
  injection e5 with e5 _
  subst e0 e1 e2 e5
  obtain ⟨lr, hr1, hr2⟩ := open_rowI h3
  obtain ⟨lw, hw1, hw2⟩ := open_rowI h4
  have hz' := wf_u64 hz
  have hb3 : Rows.uptoBulk xs[3].1 ≤ Rows.uptoBulk x.1 := by
    rw [hx1]
    simp only [Rows.uptoBulk]
    have := bulk_field (xs.map (·.1)) (List.mem_map.2 ⟨xs[3], List.getElem_mem _, rfl⟩)
    omega
  have hb4 : Rows.uptoBulk xs[4].1 ≤ Rows.uptoBulk x.1 := by
    rw [hx1]
    simp only [Rows.uptoBulk]
    have := bulk_field (xs.map (·.1)) (List.mem_map.2 ⟨xs[4], List.getElem_mem _, rfl⟩)
    omega
  refine ⟨⟨p, q, b, lr, lw, z.toNat⟩, ⟨c3, c4, ?_, hr1, hw1⟩, by show lr.length ≤ _; omega, by show lw.length ≤ _; omega, by show z.toNat < _; omega⟩
  rw [Int.toNat_of_nonneg hz'.1]
theorem open_arcs {fuel : Nat} {v : Value} {x : DataW H × List MemPlace} (h : DataW.trod enc Try.prog w base (fun _ => true) held fuel 79 [v] = some x) :
    ∃ l : List PArc, ArcsV (fun _ => True) w v l ∧ l.length ≤ Rows.uptoBulk x.1 ∧ (∀ a ∈ l, a.reads.length ≤ Rows.uptoBulk x.1 ∧ a.writes.length ≤ Rows.uptoBulk x.1 ∧ a.turns < 18446744073709551616) := by
  obtain ⟨n, N, C, D, hR, hC, hx⟩ := open_flat Try.underlying79 cells_arc (by decide) h
  obtain ⟨Z, hZ⟩ := choose_lt (α := PArc) (n := n) (p := fun i a => ArcF (fun _ => True) w a (C i) ∧ a.reads.length ≤ Rows.uptoBulk (D i).1 ∧ a.writes.length ≤ Rows.uptoBulk (D i).1 ∧ a.turns < 18446744073709551616) (fun i hi => open_arc (hC i hi).1 (hC i hi).2)
  have hD : ∀ i, i < n → Rows.uptoBulk (D i).1 ≤ Rows.uptoBulk x.1 := fun i hi => by
    have h1 := bulk_slice (fun i => Rows.uptoBulk (D i).1) hx (fun i hi => Nat.le_refl _)
    have h2 := le_sum (fun i => Rows.uptoBulk (D i).1) (List.mem_range.2 hi)
    omega
  refine ⟨(List.range n).map Z, ⟨(List.range n).flatMap C, by simpa using hR, flat_ls Z n C fun i hi => (hZ i hi).1⟩, by simpa using bulk_len hx, fun a ha => ?_⟩
  obtain ⟨i, hi, rfl⟩ := List.mem_map.1 ha
  have hi := List.mem_range.1 hi
  have h1 := hZ i hi
  have h2 := hD i hi
  exact ⟨by omega, by omega, h1.2.2.2⟩
set_option maxRecDepth 100000 in
theorem open_node {fuel : Nat} {cs : List Value} {x : DataW H × List MemPlace} (hl : cs.length = 5) (h : DataW.trod enc Try.prog w base (fun _ => true) held fuel 81 cs = some x) :
    ∃ a : PNode, NodeF (fun _ => True) w a cs ∧ a.arcs.length ≤ Rows.uptoBulk x.1 ∧ (∀ b ∈ a.arcs, b.reads.length ≤ Rows.uptoBulk x.1 ∧ b.writes.length ≤ Rows.uptoBulk x.1 ∧ b.turns < 18446744073709551616) ∧ a.props < 18446744073709551616 := by
  obtain ⟨c0, c1, c2, c3, c4, rfl⟩ := five hl
  obtain ⟨xs, n, _, hx1, _, hxl, hf⟩ := DataW.trod_struct Try.underlying81 h
  have h0 : DataW.trod enc Try.prog w base (fun _ => true) held n 79 (([c0, c1, c2, c3, c4].drop 0).take (Try.prog.cellsOf 79)) = xs[0]? := hf 0 _ rfl
  have h1 : DataW.trod enc Try.prog w base (fun _ => true) held n 25 (([c0, c1, c2, c3, c4].drop 1).take (Try.prog.cellsOf 25)) = xs[1]? := hf 1 _ rfl
  have h2 : DataW.trod enc Try.prog w base (fun _ => true) held n 4 (([c0, c1, c2, c3, c4].drop 2).take (Try.prog.cellsOf 4)) = xs[2]? := hf 2 _ rfl
  have h3 : DataW.trod enc Try.prog w base (fun _ => true) held n 4 (([c0, c1, c2, c3, c4].drop 3).take (Try.prog.cellsOf 4)) = xs[3]? := hf 3 _ rfl
  have h4 : DataW.trod enc Try.prog w base (fun _ => true) held n 4 (([c0, c1, c2, c3, c4].drop 4).take (Try.prog.cellsOf 4)) = xs[4]? := hf 4 _ rfl
  have hxl' : xs.length = 5 := hxl
  simp only [cells_arcs, cells_bool, cells_u64, List.drop_zero, List.take_succ_cons, List.take_zero, List.drop_succ_cons] at h0 h1 h2 h3 h4
  rw [List.getElem?_eq_getElem (by omega)] at h0 h1 h2 h3 h4
  obtain ⟨z, e1, _, hz⟩ := DataW.trod_int Try.underlying25 h1
  obtain ⟨b2, e2, _⟩ := DataW.trod_bool Try.underlying4 h2
  obtain ⟨b3, e3, _⟩ := DataW.trod_bool Try.underlying4 h3
  obtain ⟨b4, e4, _⟩ := DataW.trod_bool Try.underlying4 h4
  injection e1 with e1 _
  injection e2 with e2 _
  injection e3 with e3 _
  injection e4 with e4 _
  subst e1 e2 e3 e4
  obtain ⟨l, hl1, hl2, hl3⟩ := open_arcs h0
  have hz' := wf_u64 hz
  have hb0 : Rows.uptoBulk xs[0].1 ≤ Rows.uptoBulk x.1 := by
    rw [hx1]
    simp only [Rows.uptoBulk]
    have := bulk_field (xs.map (·.1)) (List.mem_map.2 ⟨xs[0], List.getElem_mem _, rfl⟩)
    omega
  refine ⟨⟨l, z.toNat, b2, b3, b4⟩, ⟨c0, ?_, hl1⟩, Nat.le_trans hl2 hb0, fun b hb => ?_, by show z.toNat < _; omega⟩
  · rw [Int.toNat_of_nonneg hz'.1]
  · have h1 := hl3 b hb
    exact ⟨by omega, by omega, h1.2.2⟩
theorem open_nodes {fuel : Nat} {v : Value} {x : DataW H × List MemPlace} (h : DataW.trod enc Try.prog w base (fun _ => true) held fuel 22 [v] = some x) :
    ∃ l : PNet, NetV (fun _ => True) w v l ∧ l.length ≤ Rows.uptoBulk x.1 ∧ total l ≤ Rows.uptoBulk x.1 ∧ (∀ y ∈ l, (∀ a ∈ y.arcs, a.reads.length ≤ Rows.uptoBulk x.1 ∧ a.writes.length ≤ Rows.uptoBulk x.1 ∧ a.turns < 18446744073709551616) ∧ y.props < 18446744073709551616) := by
  obtain ⟨n, N, C, D, hR, hC, hx⟩ := open_flat Try.underlying22 cells_node (by decide) h
  obtain ⟨Z, hZ⟩ := choose_lt (α := PNode) (n := n) (p := fun i a => NodeF (fun _ => True) w a (C i) ∧ a.arcs.length ≤ Rows.uptoBulk (D i).1 ∧ (∀ b ∈ a.arcs, b.reads.length ≤ Rows.uptoBulk (D i).1 ∧ b.writes.length ≤ Rows.uptoBulk (D i).1 ∧ b.turns < 18446744073709551616) ∧ a.props < 18446744073709551616) (fun i hi => open_node (hC i hi).1 (hC i hi).2)
  have hD : ∀ i, i < n → Rows.uptoBulk (D i).1 ≤ Rows.uptoBulk x.1 := fun i hi => by
    have h1 := bulk_slice (fun i => Rows.uptoBulk (D i).1) hx (fun i hi => Nat.le_refl _)
    have h2 := le_sum (fun i => Rows.uptoBulk (D i).1) (List.mem_range.2 hi)
    omega
  refine ⟨(List.range n).map Z, ⟨(List.range n).flatMap C, by simpa using hR, flat_ls Z n C fun i hi => (hZ i hi).1⟩, by simpa using bulk_len hx, ?_, fun y hy => ?_⟩
  · unfold total
    rw [List.map_map]
    exact bulk_slice (fun i => (Z i).arcs.length) hx (fun i hi => (hZ i hi).2.1)
  · obtain ⟨i, hi, rfl⟩ := List.mem_map.1 hy
    have hi := List.mem_range.1 hi
    have h1 := hZ i hi
    have h2 := hD i hi
    refine ⟨fun a ha => ?_, h1.2.2.2⟩
    have h3 := h1.2.2.1 a ha
    exact ⟨by omega, by omega, h3.2.2⟩
theorem cells_net : Try.prog.cellsOf 24 = 1 := by kernel_rfl
set_option maxRecDepth 100000 in
theorem open_net {r : Reach} {b0 : Nat} {v : Value} {d : DataW H} {p : List MemPlace} (hv : Value.okWide Try.prog w r b0 24 v) (h : DataW.Trod enc Try.prog w base (fun _ => true) held 24 v d p) :
    ∃ (x : Value) (l : PNet), v = .agg #[x] ∧ NetV (fun _ => True) w x l ∧ l.length ≤ Rows.uptoBulk d ∧ total l ≤ Rows.uptoBulk d ∧ (∀ y ∈ l, (∀ a ∈ y.arcs, a.reads.length ≤ Rows.uptoBulk d ∧ a.writes.length ≤ Rows.uptoBulk d ∧ a.turns < 18446744073709551616) ∧ y.props < 18446744073709551616) := by
  obtain ⟨cs, rfl, hsz⟩ := okWide_struct Try.underlying24 hv
  rw [cells_net] at hsz
  obtain ⟨l⟩ := cs
  match l, hsz with
  | [c0], _ =>
    obtain ⟨fuel, hf⟩ := h
    obtain ⟨y0, n, hx, _, h0⟩ := trod_struct1 Try.underlying24 hf
    simp only [Prod.mk.injEq] at hx
    replace h0 : DataW.trod enc Try.prog w base (fun _ => true) held n 22 [c0] = some y0 := by simpa [Value.cells, cells_nodes] using h0
    obtain ⟨g, g1, g2, g3, g4⟩ := open_nodes h0
    have hb : Rows.uptoBulk y0.1 ≤ Rows.uptoBulk d := by
      rw [hx.1]
      simp only [Rows.uptoBulk, Rows.uptoBulkAll]
      omega
    exact ⟨c0, g, rfl, g1, by omega, by omega, fun y hy => ⟨fun a ha => ⟨Nat.le_trans ((g4 y hy).1 a ha).1 hb, Nat.le_trans ((g4 y hy).1 a ha).2.1 hb, ((g4 y hy).1 a ha).2.2⟩, (g4 y hy).2⟩⟩
theorem small_bulk {l : PNet} {n : Nat} (hn : n ≤ 1048576) (h1 : l.length ≤ n) (h2 : total l ≤ n) (h3 : ∀ y ∈ l, (∀ a ∈ y.arcs, a.reads.length ≤ n ∧ a.writes.length ≤ n ∧ a.turns < 18446744073709551616) ∧ y.props < 18446744073709551616) : Small l :=
  ⟨by omega, by omega, fun i hi j hj => by
    have h4 := (h3 _ (List.getElem_mem hi)).1 _ (List.getElem_mem hj)
    omega⟩
end
end Go.Proofs.Ytpednhcfkjjcpaa
