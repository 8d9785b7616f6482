/- known: the automaton of 'p again and again' is what it should be. -/
import Derived.Test.YtelanndleinabaaDoorOf
import Derived.Test.YtelanndleinabaaDoorOften
import Derived.Test.YtelanndleinabaaDoorGAcc
import Derived.Test.YtelanndleinabaaDoorRChk
namespace Go.Proofs.YtelanndleinabaaDoor
open Go.RowKit
set_option linter.unusedVariables false

theorem sortI_id {l : List Int} (h : l.Pairwise (· ≤ ·)) : sortI l = l := by
  unfold sortI
  exact List.mergeSort_of_pairwise (by simpa using h)
theorem jj1 : joinI [] [] = [] := by unfold joinI; rw [sortI_id (by decide)]; rfl
theorem jj2 : joinI [] [0] = [0] := by unfold joinI; rw [sortI_id (by decide)]; rfl
theorem jj3 : joinI [] [1] = [1] := by unfold joinI; rw [sortI_id (by decide)]; rfl
theorem jj4 : joinI [] [0, 1] = [0, 1] := by unfold joinI; rw [sortI_id (by decide)]; rfl
theorem jj5 : joinI [0] [1] = [0, 1] := by unfold joinI; rw [sortI_id (by decide)]; rfl
theorem jj6 : joinI [0] [0, 1] = [0, 1] := by unfold joinI; rw [sortI_id (by decide)]; rfl
def oftenG : Gen := ⟨1, [0], [[⟨1, 0, 0, 1⟩, ⟨0, 0, 1, 0⟩], [⟨1, 0, 0, 1⟩, ⟨1, 0, 1, 1⟩, ⟨0, 0, 1, 0⟩]]⟩
theorem om0 : movesOf oftenA.states 0 = [⟨1, 0, []⟩, ⟨0, 0, [0]⟩] := rfl
theorem om1 : movesOf oftenA.states 1 = [⟨1, 0, [1]⟩, ⟨0, 0, [0, 1]⟩] := rfl
theorem or1 : waysRow oftenA.states [1] [⟨0, 0, []⟩] = some [⟨1, 0, [1]⟩, ⟨0, 0, [0, 1]⟩] := by
  simp [waysRow, stepX, stepY, om1, combA, jj3, jj4, addA, fitsA, sameB]
theorem or2 : waysRow oftenA.states [0, 1] [⟨0, 0, []⟩] = some [⟨1, 0, [1]⟩, ⟨1, 0, [0, 1]⟩, ⟨0, 0, [0, 1]⟩] := by
  simp [waysRow, stepX, stepY, om0, om1, combA, jj1, jj2, jj3, jj4, jj5, jj6, addA, fitsA, sameB]
theorem ow1 : waysRes oftenA.states [0] [[1]] [1] = some ([⟨1, 0, 0, 1⟩, ⟨0, 0, 1, 0⟩], [[1], [0, 1]]) := by
  unfold waysRes; rw [or1]; kernel_rfl
theorem ow2 : waysRes oftenA.states [0] [[1], [0, 1]] [0, 1] = some ([⟨1, 0, 0, 1⟩, ⟨1, 0, 1, 1⟩, ⟨0, 0, 1, 0⟩], [[1], [0, 1]]) := by
  unfold waysRes; rw [or2]; kernel_rfl
theorem og : ofGo oftenA.states [0] 4097 0 [[1]] 0 [] = some oftenG.states := by
  have e0 := ofGo_step (sts := oftenA.states) (fin := [0]) (i := 0) (mv := 0) (rows := [[1]]) (acc := []) (by decide) (by decide)
  have e1 := ofGo_step (sts := oftenA.states) (fin := [0]) (i := 1) (mv := 2) (rows := [[1], [0, 1]]) (acc := [[⟨1, 0, 0, 1⟩, ⟨0, 0, 1, 0⟩]]) (by decide) (by decide)
  have e2 := ofGo_end (sts := oftenA.states) (fin := [0]) (i := 2) (mv := 5) (rows := [[1], [0, 1]]) (acc := [[⟨1, 0, 0, 1⟩, ⟨0, 0, 1, 0⟩], [⟨1, 0, 0, 1⟩, ⟨1, 0, 1, 1⟩, ⟨0, 0, 1, 0⟩]]) (by decide) (by decide)
  have f0 : [[(1 : Int)]][0] = [1] := rfl
  have f1 : [[(1 : Int)], [0, 1]][1] = [0, 1] := rfl
  rw [f0, ow1] at e0
  rw [f1, ow2] at e1
  simp at e0 e1 e2
  rw [e0, e1, e2]
  rfl
theorem oo : ofOut oftenA = (0, oftenG) := by
  have h1 : altOk oftenA = true := by kernel_rfl
  have h2 : finI oftenA.states 0 = [0] := rfl
  have h3 : ofInit oftenA.init [] [] = some ([[1]], [0]) := by kernel_rfl
  unfold ofOut ofRes
  rw [h1, h2, h3, if_pos rfl, if_pos (by decide)]
  simp only [Option.bind_some, og, Option.map_some]
  rfl
theorem og_ok : genOk oftenG = true := by kernel_rfl
def las1 : Las := ⟨[], [1, 0]⟩
def las2 : Las := ⟨[1], [0]⟩
theorem og_bits {l : Las} {p : Nat} {e : Nat × Nat} (he : e ∈ stepsOf oftenG l p) : e.2 = 0 ∨ e.2 = 1 := by
  unfold stepsOf stepsIn at he
  obtain ⟨m, hm, rfl⟩ := List.mem_map.1 he
  have hm' := (List.mem_filter.1 hm).1
  show m.sets = 0 ∨ m.sets = 1
  have hp : p % oftenG.states.length = 0 ∨ p % oftenG.states.length = 1 := by
    show p % 2 = 0 ∨ p % 2 = 1
    omega
  rcases hp with h | h <;> rw [h] at hm' <;> simp [oftenG] at hm' <;> rcases hm' with rfl | rfl | rfl <;> simp
theorem acc1 : accP oftenG las1 := by
  have a1 : ((2, 1) : Nat × Nat) ∈ stepsOf oftenG las1 1 := by decide
  have a2 : ((1, 0) : Nat × Nat) ∈ stepsOf oftenG las1 2 := by decide
  have a0 : ((3, 0) : Nat × Nat) ∈ stepsOf oftenG las1 0 := by decide
  have a3 : ((1, 0) : Nat × Nat) ∈ stepsOf oftenG las1 3 := by decide
  have hi : inScc (stepsOf oftenG las1) 1 (2, 1) := ⟨1, ⟨.refl, .refl⟩, a1, Rch.one a1, Rch.one a2⟩
  refine ⟨0, by simp [oftenG], 1, (Rch.one a0).trans (Rch.one a3), ⟨(2, 1), hi⟩, fun j => ⟨fun h => ⟨(2, 1), hi, h⟩, fun ⟨e, ⟨k, _, he, _⟩, hb⟩ => ?_⟩⟩
  rcases og_bits he with h | h
  · rw [h] at hb; simp at hb
  · rw [h] at hb; exact hb
theorem acc2 : ¬ accP oftenG las2 := by
  rintro ⟨s, hs, y, hr, -, hg⟩
  have s0 : s = 0 := by simpa [oftenG] using hs
  subst s0
  obtain ⟨e, ⟨k, ⟨k1, k2⟩, he, e1, e2⟩, hb⟩ := (hg 0).1 (by decide)
  have n0 : stepsOf oftenG las2 0 = [(2, 1), (3, 0)] := by decide
  have n2 : stepsOf oftenG las2 2 = [(3, 0)] := by decide
  have n3 : stepsOf oftenG las2 3 = [(3, 0)] := by decide
  have hP : ∀ a, (a = 2 ∨ a = 3) → ∀ e ∈ stepsOf oftenG las2 a, e.1 = 2 ∨ e.1 = 3 := by
    rintro a (rfl | rfl) e he
    · rw [n2] at he; simp at he; subst he; simp
    · rw [n3] at he; simp at he; subst he; simp
  have hQ : ∀ a, (a = 0 ∨ a = 2 ∨ a = 3) → ∀ e ∈ stepsOf oftenG las2 a, e.1 = 0 ∨ e.1 = 2 ∨ e.1 = 3 := by
    rintro a (rfl | h) e he
    · rw [n0] at he; simp at he; rcases he with rfl | rfl <;> simp
    · exact .inr (hP a h e he)
  have hk : k = 0 ∨ k = 2 ∨ k = 3 := (hr.trans k1).carry (P := fun a => a = 0 ∨ a = 2 ∨ a = 3) (.inl rfl) hQ
  rcases hk with rfl | rfl | rfl
  · rw [n0] at he
    simp at he
    have : e.1 = 2 ∨ e.1 = 3 := by rcases he with rfl | rfl <;> simp
    have h0 := (e2.trans k1).carry (P := fun a => a = 2 ∨ a = 3) this hP
    omega
  · rw [n2] at he; simp at he; subst he; simp at hb
  · rw [n3] at he; simp at he; subst he; simp at hb

theorem las1_at {W : World} {b : Nat} (h : Holds W b 49 [.int .u64 1, .int .u64 0]) : LasAt W.heap.size W (.agg #[.slice none 0 0, .slice (some ⟨b, 0, none⟩) 2 2]) las1 := by
  refine ⟨_, _, rfl, ⟨Row.nil _ _ _, by simp [las1]⟩, ⟨⟨_, 2, rfl, Nat.le_refl _, by unfold maxLen; omega, rfl, (fun h => by cases h), fun _ => ⟨_, 0, rfl, h.lt, fun j hj => by rw [Nat.zero_add]; exact h.cell j⟩⟩, by simp [las1]⟩⟩
theorem las2_at {W : World} {b b' : Nat} (h : Holds W b 49 [.int .u64 1]) (h' : Holds W b' 49 [.int .u64 0]) : LasAt W.heap.size W (.agg #[.slice (some ⟨b, 0, none⟩) 1 1, .slice (some ⟨b', 0, none⟩) 1 1]) las2 := by
  refine ⟨_, _, rfl, ⟨⟨_, 1, rfl, Nat.le_refl _, by unfold maxLen; omega, rfl, (fun h => by cases h), fun _ => ⟨_, 0, rfl, h.lt, fun j hj => by rw [Nat.zero_add]; exact h.cell j⟩⟩, by simp [las2]⟩, ⟨⟨_, 1, rfl, Nat.le_refl _, by unfold maxLen; omega, rfl, (fun h => by cases h), fun _ => ⟨_, 0, rfl, h'.lt, fun j hj => by rw [Nat.zero_add]; exact h'.cell j⟩⟩, by simp [las2]⟩⟩
theorem GenAt.step {g : Gen} {v : Value} {w w' : World} (h : GenAt w.heap.size w v g) (hb : Below w.heap.size w w') : GenAt w'.heap.size w' v g := by
  obtain ⟨a, b, rfl, h1, h2, h3⟩ := h
  exact ⟨a, b, rfl, h1, (h2.below hb).mono hb.size, (h3.below hb).mono hb.size⟩

set_option maxHeartbeats 4000000 in
set_option maxRecDepth 100000 in
theorem knownFn (w : World) : Calls Tryd.prog 12 #[] w fun e w' => e = .returned (.bool true) ∧ Below w.heap.size w w' := by
  have hc : genCode oftenG = 0 := by unfold genCode; rw [if_pos og_ok]
  have ha1 : accCode oftenG las1 = 0 := by unfold accCode; rw [if_pos og_ok]; kernel_rfl
  have ha2 : accCode oftenG las2 = 0 := by unfold accCode; rw [if_pos og_ok]; kernel_rfl
  have hs : (oftenG.states.map List.length).sum ≤ 4000000 := by decide
  go_enter Tryd.func12, Tryd.ntmps12
  go_wp2_with (first
    | (go_at_call 21; refine (oftenFn w).mono ?_; rintro e w1 ⟨v, rfl, hA1, hB1⟩)
    | (go_at_call 16; refine (ofFn oftenA v w1 hA1 (by decide) (by decide)).mono ?_; rintro e w2 ⟨vg, rfl, hG2, hB2⟩; rw [oo]; rw [oo] at hG2; obtain ⟨ga, gb, rfl, hgs, hga, hgb⟩ := hG2; obtain ⟨a1, c1, rfl, _, _⟩ := hga.form; obtain ⟨a2, c2, rfl, _, _⟩ := hgb.form; have hal3 : Below w2.heap.size w2 (w2.alloc (.cells #[.int .i64 1, .slice a1 1 c1, .slice a2 2 c2] 25)) := (Below.refl _ _).alloc (Nat.le_refl _) _; have hG2' : GenAt w2.heap.size w2 (.agg #[.int .i64 1, .slice a1 1 c1, .slice a2 2 c2]) oftenG := ⟨_, _, rfl, hgs, hga, hgb⟩; have HG3 := Lib.hid (hG2'.step hal3); have HH3 := Lib.hid (Holds.new w2 25 #[.int .i64 1, .slice a1 1 c1, .slice a2 2 c2]); have HB3 := Lib.hid ((hB1.trans (hB2.mono hB1.size)).trans (hal3.mono (Nat.le_trans hB1.size hB2.size))); have x0 := HH3.out.cell 0; have x1 := HH3.out.cell 1; have x2 := HH3.out.cell 2; simp only [List.getElem?_cons_zero, List.getElem?_cons_succ] at x0 x1 x2; clear hal3 hG2' hgs hga hgb hA1 hB1 hB2)
    | (go_at_call 8; refine (refCheck oftenG (.agg #[.int .i64 1, .slice a1 1 c1, .slice a2 2 c2]) _ HG3.out hs).mono ?_; rintro e w4 ⟨rfl, hb4⟩; rw [hc]; have HG4 := Lib.hid (HG3.out.step hb4); have hH4 := HH3.out.belowAll hb4; have HB4 := Lib.hid (HB3.out.trans (hb4.mono HB3.out.size)); have y0 := hH4.cell 0; have y1 := hH4.cell 1; have y2 := hH4.cell 2; simp only [List.getElem?_cons_zero, List.getElem?_cons_succ] at y0 y1 y2; have hal5 : Below w4.heap.size w4 (w4.alloc (.cells #[.int .u64 1, .int .u64 0] 49)) := (Below.refl _ _).alloc (Nat.le_refl _) _; have HA5 := Lib.hid (genAccepts oftenG las1 (.agg #[.int .i64 1, .slice a1 1 c1, .slice a2 2 c2]) (.agg #[.slice none 0 0, .slice (some ⟨w4.heap.size, 0, none⟩) 2 2]) _ (HG4.out.step hal5) (las1_at (Holds.new w4 49 #[.int .u64 1, .int .u64 0])) hs (by decide)); have HG5 := Lib.hid (HG4.out.step hal5); have HH5 := Lib.hid (hH4.belowAll hal5); have HB5 := Lib.hid (HB4.out.trans (hal5.mono HB4.out.size)); clear hH4 hal5 hb4)
    | (go_at_call 14; refine (HA7.out).mono ?_; rintro e w8 ⟨b, rfl, hp, hb8⟩; rw [ha2] at hp ⊢; obtain rfl : b = false := Bool.eq_false_iff.2 (fun h => acc2 (hp.1 h).2); have HG8 := Lib.hid (HG7.out.step hb8); have hH8 := HH7.out.belowAll hb8; have HB8 := Lib.hid (HB7.out.trans (hb8.mono HB7.out.size)); have q0 := hH8.cell 0; have q1 := hH8.cell 1; have q2 := hH8.cell 2; simp only [List.getElem?_cons_zero, List.getElem?_cons_succ] at q0 q1 q2; clear hH8 hb8)
    | (go_at_call 14; refine (HA5.out).mono ?_; rintro e w6 ⟨b, rfl, hp, hb6⟩; rw [ha1] at hp ⊢; obtain rfl : b = true := hp.2 ⟨rfl, acc1⟩; have HG6 := Lib.hid (HG5.out.step hb6); have hH6 := HH5.out.belowAll hb6; have HB6 := Lib.hid (HB5.out.trans (hb6.mono HB5.out.size)); have z0 := hH6.cell 0; have z1 := hH6.cell 1; have z2 := hH6.cell 2; simp only [List.getElem?_cons_zero, List.getElem?_cons_succ] at z0 z1 z2; have hal7 : Below w6.heap.size w6 ((w6.alloc (.cells #[.int .u64 1] 49)).alloc (.cells #[.int .u64 0] 49)) := ((Below.refl _ _).alloc (Nat.le_refl _) _).alloc (by simp) _; have HN7 := (Holds.new w6 49 #[.int .u64 1]).alloc (.cells #[.int .u64 0] 49); have HN8 := holds_at (w := w6.alloc (.cells #[.int .u64 1] 49)) (k := w6.heap.size + 1) (by simp) 49 #[.int .u64 0]; have HA7 := Lib.hid (genAccepts oftenG las2 (.agg #[.int .i64 1, .slice a1 1 c1, .slice a2 2 c2]) (.agg #[.slice (some ⟨w6.heap.size, 0, none⟩) 1 1, .slice (some ⟨w6.heap.size + 1, 0, none⟩) 1 1]) _ (HG6.out.step hal7) (las2_at HN7 HN8) hs (by decide)); have HG7 := Lib.hid (HG6.out.step hal7); have HH7 := Lib.hid (hH6.belowAll hal7); have HB7 := Lib.hid (HB6.out.trans (hal7.mono HB6.out.size)); clear hH6 hal7 hb6 HN7 HN8)
    | (go_at_call 9; refine (genCheck oftenG (.agg #[.int .i64 1, .slice a1 1 c1, .slice a2 2 c2]) _ HG8.out hs).mono ?_; rintro e w9 ⟨rfl, hb9⟩; rw [hc]; have HB9 := Lib.hid (HB8.out.trans (hb9.mono HB8.out.size))))
  go_ret
  exact ⟨rfl, HB9.out⟩
end Go.Proofs.YtelanndleinabaaDoor
