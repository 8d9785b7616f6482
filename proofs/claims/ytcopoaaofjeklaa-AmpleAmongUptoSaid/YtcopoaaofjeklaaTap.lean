/- append(s, make([]int, m)...) onto an own row of numbers; the walks of slices.Grow and slices.Concat. -/
import Derived.Test.YtcopoaaofjeklaaTst
namespace Go.Proofs.Ytcopoaaofjeklaa.G
open Go.RowKit
set_option linter.unusedVariables false
set_option linter.unusedSimpArgs false

theorem zeroCells_one (z : Value) (n : Nat) : Builtin.zeroCells #[z] n = (List.replicate n z).toArray := by
  unfold Builtin.zeroCells
  apply Array.ext
  · simp
  · intro i h1 h2
    simp [Nat.mod_one]
theorem int_zero : ∃ i, Try.prog.info? 3 = some i ∧ i.zero = some (.int .i64 0) ∧ i.size = 1 ∧ i.bytes = 8 := by
  have h : (Try.prog.info? 3).map (fun i => (i.zero, i.size, i.bytes)) = some (some (.int .i64 0), 1, 8) := by kernel_rfl
  obtain ⟨i, hi, he⟩ := Option.map_eq_some_iff.1 h
  simp only [Prod.mk.injEq] at he
  exact ⟨i, hi, he.1, he.2.1, he.2.2⟩
theorem run_append_zeros {w : World} {ty : TypeId} {base n m : Nat} {v : Value} {xs : List Value} (hown : w.ownsRow base 3 1 v n xs) (hm : m ≤ 1000000) (hn : n ≤ 2000000) (hbase : base ≤ w.heap.size) :
    ∃ v' w', (Builtin.append_ #[22, 3] ty #[v, .int .i64 (m : Int)]).run Try.prog w = .ok v' w' ∧ w'.ownsRow base 3 1 v' (n + m) (xs ++ List.replicate m (.int .i64 0)) ∧ w.grownBy w' v.ownBlock ∧ (v'.ownBlock = v.ownBlock ∨ v'.ownBlock = some w.heap.size) := by
  obtain ⟨i, hi, hz, hsz, hby⟩ := int_zero
  have ht := Try.underlying22
  have hu := Try.underlying3
  obtain ⟨y, hy⟩ : ∃ y : Int, (m : Int) = y := ⟨_, rfl⟩
  have hw1 : IntKind.i64.wrap y = y := by rw [IntKind.wrap_i64]; omega
  have hl := hown.1
  have ha : ∀ w', (asInt (.int .i64 y)).run Try.prog w' = .ok y w' := fun _ => rfl
  have q1 : ¬ (y < 0) := by omega
  have q2 : ¬ (281474976710656 < y * 8) := by omega
  have q5 : y.toNat = m := by omega
  have grown : ∀ (old : Nat), ∀ (row : Option Nat),
      (w.drew.alloc (.cells (xs.toArray ++ (List.replicate m (Value.int .i64 0)).toArray ++ Builtin.zeroCells #[.int .i64 0] (grownCap w (n + m) old 3 - (n + m))) 3)).ownsRow base 3 1
        (.slice (some ⟨w.heap.size, 0, none⟩) (n + m) (grownCap w (n + m) old 3)) (n + m) (xs ++ List.replicate m (.int .i64 0)) ∧
      w.grownBy (w.drew.alloc (.cells (xs.toArray ++ (List.replicate m (Value.int .i64 0)).toArray ++ Builtin.zeroCells #[.int .i64 0] (grownCap w (n + m) old 3 - (n + m))) 3)) row := by
    intro old row
    have hge := grownCap_ge w (n + m) old 3
    have hcm : grownCap w (n + m) old 3 ≤ maxLen := grownCap_le_maxLen w (n + m) old 3 (by unfold maxLen; omega)
    refine ⟨⟨by simp [hl], .inr ⟨w.heap.size, _, _, rfl, hbase, heap_alloc_new w.drew _, hge, hcm, ?_, ?_⟩⟩, ⟨rfl, rfl, rfl, by simp, fun k hk _ => heap_alloc_old w.drew _ hk⟩⟩
    · simp only [Array.size_append, List.size_toArray, size_zeroCells, hl, List.length_replicate]
      simp
      omega
    · simp only [Array.toList_append, List.append_assoc]
      rw [← List.append_assoc, show (n + m) * 1 = (xs ++ List.replicate m (Value.int .i64 0)).length by simp [hl]]
      exact List.take_left
  rcases hown.2 with ⟨rfl, h0⟩ | ⟨g, cap, cur, rfl, hbg, hg, hnc, hcm, hcs, htake⟩
  · subst h0
    have hx : xs = [] := List.eq_nil_of_length_eq_zero (by simpa using hl)
    subst hx
    by_cases hm0 : m = 0
    · subst hm0
      refine ⟨.slice none 0 0, w, ?_, World.ownsRow_nil w base _ 1, ⟨rfl, rfl, rfl, Nat.le_refl _, fun _ _ _ => rfl⟩, Or.inl rfl⟩
      simp [Builtin.append_, run_underlying ht, run_underlying hu, sizeOf, typeInfo, hi, hsz, hby, ha, hw1, q1, q2, q5, hy]
      exact fun h => by omega
    · have hgr := grown 0 (Value.ownBlock (.slice none 0 0))
      have q3 : ¬ (281474976710656 < Builtin.nextslicecap m 0 * 8) := by rw [nextslicecap_zero (by omega)]; omega
      have q4 : ¬ (9223372036854775807 < (m : Int)) := by omega
      simp only [Nat.zero_add, List.nil_append] at hgr ⊢
      refine ⟨_, _, ?_, hgr.1, hgr.2, Or.inr rfl⟩
      simp [Builtin.append_, run_underlying ht, run_underlying hu, sizeOf, typeInfo, zeroValue, hi, hz, hsz, hby, ha, hw1, q1, q2, q3, q4, q5, hy, hm0, Question.forced, run_firstCells_none, newRow, grownCap, zeroCells_one, Value.cells]
      rw [if_neg (by omega), if_neg (by omega)]
  · by_cases hroom : n + m ≤ cap
    · by_cases hm0 : m = 0
      · subst hm0
        refine ⟨.slice (some ⟨g, 0, none⟩) n cap, w, ?_, by simpa using hown, ⟨rfl, rfl, rfl, Nat.le_refl _, fun _ _ _ => rfl⟩, Or.inl rfl⟩
        simp [Builtin.append_, run_underlying ht, run_underlying hu, sizeOf, typeInfo, hi, hsz, hby, ha, hw1, q1, q2, q5, hy, hnc, storeCells]
      · have hst := run_storeCells_at Try.prog g n 3 (List.replicate m (.int .i64 0)) 0 cur w hg (by simp [hcs]; omega) (by intro u hu; rw [List.eq_of_mem_replicate hu]; rfl)
        simp only [Nat.add_zero] at hst
        refine ⟨.slice (some ⟨g, 0, none⟩) (n + m) cap, _, ?_, ⟨by simp [hl], .inr ⟨g, cap, _, rfl, hbg, setRow_heap w g cur (cur.toList.take n ++ List.replicate m (Value.int .i64 0) ++ cur.toList.drop (n + m)).toArray 3 _ hg, hroom, hcm, ?_, ?_⟩⟩, ⟨rfl, rfl, rfl, by simp, fun k _ hk => setRow_other w g k _ (fun e => hk (by simp [Value.ownBlock, e]))⟩, Or.inl rfl⟩
        · simp [Builtin.append_, run_underlying ht, run_underlying hu, sizeOf, typeInfo, zeroValue, hi, hz, hsz, hby, ha, hw1, q1, q2, q5, hy, hroom, hm0, zeroCells_one, Value.cells, Addr.add_lit, hst]
        · simp [hcs]
          omega
        · rw [Nat.mul_one] at htake
          rw [htake]
          rw [show (n + m) * 1 = (xs ++ List.replicate m (Value.int .i64 0)).length by simp [hl]]
          exact List.take_left
    · have holds : ∀ j u, xs[j]? = some u → w.cell? ((⟨g, 0, none⟩ : Addr).add j) = some u := hown.cells (g := g) rfl
      have hfo := run_firstCells_some (P := Try.prog) w.drew 1 n ⟨g, 0, none⟩ n cap xs hl (by simpa using holds)
      have hgr := grown cap (Value.ownBlock (.slice (some ⟨g, 0, none⟩) n cap))
      have h63' : ¬ (9223372036854775807 < ((n : Int) + (m : Int))) := by omega
      have h48' : ¬ (281474976710656 < Builtin.nextslicecap (n + m) cap * 8) := by
        have := growslice_fits (need := n + m) (old := cap) (bytes := 8) (by omega) (by omega)
        omega
      have hm0 : ¬ m = 0 := by omega
      refine ⟨_, _, ?_, hgr.1, hgr.2, Or.inr rfl⟩
      simp [Builtin.append_, run_underlying ht, run_underlying hu, sizeOf, typeInfo, zeroValue, hi, hz, hsz, hby, ha, hw1, q1, q2, q5, hy, hroom, hm0, h48', Question.forced, hfo, newRow, grownCap, zeroCells_one, Value.cells]
      exact fun h => by omega
theorem wpList_append_zeros {ops : Array Oper} {rest : List Oper} {o : Oper} {a : Act} {Q : Exit → Act → World → Prop} {w : World} (hgd : o.guard = none) (s x : Operand)
    (ho : o.op = .call { callee := .builtin .append, args := #[s, x], argTypes := #[22, 3] }) (base : Nat) {v : Value} {n m : Nat} {xs : List Value} (hs : a.eval s = v) (hx : a.eval x = .int .i64 (m : Int))
    (hown : w.ownsRow base 3 1 v n xs) (hm : m ≤ 1000000) (hn : n ≤ 2000000) (hbase : base ≤ w.heap.size)
    (h : ∀ v' w', w'.ownsRow base 3 1 v' (n + m) (xs ++ List.replicate m (.int .i64 0)) → w.grownBy w' v.ownBlock → (v'.ownBlock = v.ownBlock ∨ v'.ownBlock = some w.heap.size) → wpList Try.prog ops Q rest (a.put o.dst v') w') :
    wpList Try.prog ops Q (o :: rest) a w := by
  refine wpList_plain hgd fun K hK => ?_
  obtain ⟨v', w', hr, h2, h3, h4⟩ := run_append_zeros (ty := o.type) hown hm hn hbase
  unfold Oper.wp execOp
  simp only [ho, resolve, invoke, builtin, Sem.run_bind, Sem.run_pure, Result.andThen_ok, List.map_toArray, List.map_cons, List.map_nil, hs, hx, hr]
  exact hK _ _ (h v' w' h2 h3 h4)
set_option maxHeartbeats 1000000 in
set_option maxRecDepth 100000 in
theorem growFn {w : World} {m : Nat} (hm : m ≤ 1000000) : Calls Try.prog 69 #[.slice none 0 0, .int .i64 (m : Int)] w (fun e w' => Below w.heap.size w w' ∧ ∃ v, e = .returned v ∧ w'.ownsRow w.heap.size 3 1 v 0 []) := by
  have d1 : decide ((m : Int) < 0) = false := decide_eq_false (by omega)
  have hw0 : IntKind.i64.wrap (m : Int) = (m : Int) := by rw [IntKind.wrap_i64]; omega
  by_cases hm0 : m = 0
  · subst hm0
    go_enter Try.func69, Try.ntmps69
    go_wp2
    go_ret
    exact ⟨Below.refl _ _, _, rfl, World.ownsRow_nil _ _ _ _⟩
  · have d2 : decide ((0 : Int) < (m : Int)) = true := decide_eq_true (by omega)
    have HW : Hid (w.ownsRow w.heap.size 3 1 (.slice none 0 0) 0 []) := World.ownsRow_nil _ _ _ _
    have hm1 : 0 < m := by omega
    go_enter Try.func69, Try.ntmps69
    go_wp2_with (refine wpList_append_zeros rfl (.tmp 20) (.tmp 21) rfl w.heap.size rfl rfl HW.out hm (by omega) (Nat.le_refl _) ?_)
    intro v' w1 hown hgr _
    have hB : Below w.heap.size w w1 := (Below.refl _ _).grown hgr (Nat.le_refl _) fun k hk => by simp [Value.ownBlock] at hk
    rcases hown.2 with ⟨h0, h1⟩ | ⟨g, cap, cur, rfl, hbg, hg, hnc, hcm, hcs, htake⟩
    · omega
    · have HF : Hid (w1.ownsRow w.heap.size 3 1 (.slice (some ⟨g, 0, none⟩) 0 cap) 0 []) := ⟨by simp, .inr ⟨g, cap, cur, rfl, hbg, hg, Nat.zero_le _, hcm, hcs, by simp⟩⟩
      have HB := Lib.hid hB
      clear hown hgr hB hg hcs htake
      go_wp2
      go_ret
      exact ⟨HB.out, _, rfl, HF.out⟩
set_option maxHeartbeats 1000000 in
set_option maxRecDepth 100000 in
theorem concatFn {P P1 P2 : Nat → Prop} {w : World} {v0 v1 v2 : Value} {n m : Nat} {l1 l2 : List Value} (h0 : RowL P w 1 v0 2 [v1, v2]) (h1 : RowL P1 w 1 v1 n l1) (h2 : RowL P2 w 1 v2 m l2) (o1 : ∀ u ∈ l1, u.oneCell' = true) (o2 : ∀ u ∈ l2, u.oneCell' = true) (hn : n ≤ 400000) (hm : m ≤ 400000) :
    Calls Try.prog 60 #[v0] w (fun e w' => Below w.heap.size w w' ∧ ∃ v, e = .returned v ∧ w'.ownsRow w.heap.size 3 1 v (n + m) (l1 ++ l2)) := by
  obtain ⟨i0, z0, hi0, hz0, hz1, hz2, hz3⟩ := info_of info_int
  obtain ⟨g, o, cap, x, rfl, hx, hc0⟩ := h0.at1 (i := 0) (by omega)
  simp only [List.getElem?_cons_zero, Option.some.injEq] at hx
  subst hx
  rw [Nat.add_zero] at hc0
  obtain ⟨g', o', cap', x, he, hx, hc1⟩ := h0.at1 (i := 1) (by omega)
  injection he with he _ _
  injection he with he
  injection he with he1 he2 _
  subst he1 he2
  simp only [List.getElem?_cons_succ, List.getElem?_cons_zero, Option.some.injEq] at hx
  subst hx
  obtain ⟨a1, c1, rfl, _, _, _⟩ := h1.form
  obtain ⟨a2, c2, rfl, _, _, _⟩ := h2.form
  have H0 := Lib.hid h0
  have H1 := Lib.hid h1
  have H2 := Lib.hid h2
  have O1 := Lib.hid o1
  have O2 := Lib.hid o2
  have hwn : IntKind.i64.wrap (n : Int) = (n : Int) := by rw [IntKind.wrap_i64]; omega
  have hwm : IntKind.i64.wrap ((n : Int) + (m : Int)) = (n : Int) + (m : Int) := by rw [IntKind.wrap_i64]; omega
  have d1 : decide ((n : Int) < 0) = false := decide_eq_false (by omega)
  have d2 : decide ((n : Int) + (m : Int) < 0) = false := decide_eq_false (by omega)
  clear h0 h1 h2 o1 o2
  go_enter Try.func60, Try.ntmps60
  go_wp2
  go_loopw [3, 11] (fun s x W => ∃ i : Nat, x = .int .i64 (i : Int) ∧ (i = 0 ∧ s = .int .i64 0 ∨ i = 1 ∧ s = .int .i64 (n : Int) ∨ i = 2 ∧ s = .int .i64 ((n : Int) + (m : Int))) ∧ W = w) (fun _ x _ => 2 - (intOf x).toNat)
  case atStart => exact ⟨0, rfl, .inl ⟨rfl, rfl⟩, rfl⟩
  case round =>
    obtain ⟨i, hx, hs, rfl⟩ := hrel
    subst hx
    rcases hs with ⟨rfl, rfl⟩ | ⟨rfl, rfl⟩ | ⟨rfl, rfl⟩
    · go_wp2
      exact ⟨⟨1, rfl, .inr (.inl ⟨rfl, rfl⟩), trivial⟩, by simp [intOf]⟩
    · go_wp2
      exact ⟨⟨2, rfl, .inr (.inr ⟨rfl, rfl⟩), trivial⟩, by simp [intOf]⟩
    · have HGF := growFn (w := wr) (m := n + m) (by omega)
      rw [Int.natCast_add] at HGF
      have HGF := Lib.hid HGF
      go_wp2_with (fail)
      refine HGF.out.mono ?_
      rintro e w2 ⟨hb2, v, rfl, hown⟩
      have HB2 := Lib.hid hb2
      have HO := Lib.hid hown
      clear hb2 hown
      go_wp2_with (fail)
      obtain ⟨w, rfl⟩ : ∃ W, W = wr := ⟨_, rfl⟩
      go_loopw [6, 27] (fun s x W => ∃ (i k : Nat) (xs : List Value), x = .int .i64 (i : Int) ∧ (i = 0 ∧ k = 0 ∧ xs = [] ∨ i = 1 ∧ k = n ∧ xs = l1 ∨ i = 2 ∧ k = n + m ∧ xs = l1 ++ l2) ∧ Hid (W.ownsRow w.heap.size 3 1 s k xs) ∧ Hid (Below w.heap.size w W)) (fun _ x _ => 2 - (intOf x).toNat)
      case atStart => exact ⟨0, 0, [], rfl, .inl ⟨rfl, rfl, rfl⟩, HO.out, HB2.out⟩
      case round =>
        clear HO HB2
        obtain ⟨i, k, xs, hx, hs, HO, HB⟩ := hrel
        subst hx
        have hhb : w.heap.size ≤ wr.heap.size := HB.out.size
        have e0 := (HB.out.cell (World.block_lt_of_cell? w _ hc0)).trans hc0
        have e1 := (HB.out.cell (World.block_lt_of_cell? w _ hc1)).trans hc1
        rcases hs with ⟨rfl, rfl, rfl⟩ | ⟨rfl, rfl, rfl⟩ | ⟨rfl, rfl, rfl⟩
        · have HR := Lib.hid (H1.out.up (Keep.below HB.out))
          go_wp2_with (refine wpList_append_row rfl (.tmp 31) (.tmp 32) _ rfl w.heap.size 3 i0 z0 1 8 Try.underlying22 hi0 hz0 hz1 hz2 hz3 (by omega) _ 0 [] rfl HO.out _ n l1 rfl HR.out O1.out (by unfold maxLen; omega) (by omega) hhb ?_)
          intro v' w3 hown hgr hblk
          have HO3 : Hid (w3.ownsRow w.heap.size 3 1 v' n l1) := hown
          have HB3 : Hid (Below w.heap.size w w3) := HB.out.grown hgr hhb fun k hk => owns_ge HO.out k hk
          clear hown hgr hblk HO HB HR e0 e1
          go_wp2
          exact ⟨⟨1, n, l1, rfl, .inr (.inl ⟨rfl, rfl, rfl⟩), HO3, HB3⟩, by simp [intOf]⟩
        · have HR := Lib.hid (H2.out.up (Keep.below HB.out))
          go_wp2_with (refine wpList_append_row rfl (.tmp 31) (.tmp 32) _ rfl w.heap.size 3 i0 z0 1 8 Try.underlying22 hi0 hz0 hz1 hz2 hz3 (by omega) _ _ _ rfl HO.out _ m l2 rfl HR.out O2.out (by unfold maxLen; omega) (by omega) hhb ?_)
          intro v' w3 hown hgr hblk
          have HO3 := Lib.hid hown
          have HB3 : Hid (Below w.heap.size w w3) := HB.out.grown hgr hhb fun k hk => owns_ge HO.out k hk
          clear hown hgr hblk HO HB HR e0 e1
          go_wp2
          exact ⟨⟨2, _, _, rfl, .inr (.inr ⟨rfl, rfl, rfl⟩), HO3, HB3⟩, by simp [intOf]⟩
        · go_wp2
          go_ret
          exact ⟨HB.out, _, rfl, HO.out⟩
end Go.Proofs.Ytcopoaaofjeklaa.G
