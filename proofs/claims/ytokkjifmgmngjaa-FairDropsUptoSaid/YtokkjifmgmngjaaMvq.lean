/- The walks of the reference's Same and Move at any two things, and of chapter 17's pick. -/
import Derived.Test.YtokkjifmgmngjaaRhg
import Derived.Test.YtokkjifmgmngjaaMvs
import Derived.Test.YtokkjifmgmngjaaMg3
namespace Go.Proofs.Ytokkjifmgmngjaa.G
open Go.RowKit Go.Maps
set_option linter.unusedVariables false
set_option linter.unusedSimpArgs false

def SomeB (w : World) (e : Ending) (w' : World) : Prop := (∃ b : Bool, e = .returned (.bool b)) ∧ Below w.heap.size w w'
set_option maxHeartbeats 1000000 in
theorem sameAnyFn {P P' : Nat → Prop} {w : World} {v v' : Value} {l l' : List Int} (h : RowL P w 1 v l.length (l.map intV)) (h' : RowL P' w 1 v' l'.length (l'.map intV)) (hn : l.length ≤ 2000000) (hn' : l'.length ≤ 2000000) : Calls Try.prog 21 #[v, v'] w (SomeB w) := by
  obtain ⟨a, c, rfl, hc1, _, _⟩ := h.form
  obtain ⟨a', c', rfl, hc1', _, _⟩ := h'.form
  obtain ⟨N, hN⟩ : ∃ N, l.length = N := ⟨_, rfl⟩
  obtain ⟨M, hM⟩ : ∃ M, l'.length = M := ⟨_, rfl⟩
  have H := Lib.hid h
  have H' := Lib.hid h'
  have HN := Lib.hid hN
  have HM := Lib.hid hM
  rw [hN] at hc1 hn
  rw [hM] at hc1' hn'
  rw [hN, hM]
  clear h h' hN hM
  by_cases hnm : N = M
  · subst hnm
    have d0 : ((N : Int) != (N : Int)) = false := by simp
    go_enter Try.func21, Try.ntmps21
    go_wp2
    go_loopw [5] (fun x wr => ∃ i : Nat, x = .int .i64 (i : Int) ∧ i ≤ N ∧ Hid (Below w.heap.size w wr)) (fun x _ => N - (intOf x).toNat)
    case atStart => exact ⟨0, rfl, Nat.zero_le _, Below.refl _ _⟩
    case round =>
      obtain ⟨i, hx, hi, HB⟩ := hrel
      subst hx
      by_cases hin : i < N
      · have hil : i < l.length := by rw [HN.out]; exact hin
        have hil' : i < l'.length := by rw [HM.out]; exact hin
        have hi2i : (i : Int) < (N : Int) := by omega
        have hi0i : (0 : Int) ≤ (i : Int) := by omega
        have hwii : IntKind.i64.wrap (i : Int) = (i : Int) := by rw [IntKind.wrap_i64]; omega
        have hwji : IntKind.i64.wrap ((i : Int) + 1) = (i : Int) + 1 := by rw [IntKind.wrap_i64]; omega
        have h1 := H.out.up (Keep.below HB.out)
        have h2 := H'.out.up (Keep.below HB.out)
        rw [HN.out] at h1
        rw [HM.out] at h2
        have h1' := h1
        have h2' := h2
        rw [← HN.out] at h1'
        rw [← HM.out] at h2'
        obtain ⟨g, ob, rfl, hc1⟩ := at_int (n := l.length) h1' hil
        obtain ⟨g', ob', rfl, hc2⟩ := at_int (n := l'.length) h2' hil'
        obtain ⟨p, hp⟩ : ∃ p, l[i] = p := ⟨_, rfl⟩
        obtain ⟨q, hq⟩ : ∃ q, l'[i] = q := ⟨_, rfl⟩
        rw [hp] at hc1
        rw [hq] at hc2
        clear hp hq h1 h2 h1' h2'
        by_cases hpq : p = q
        · have d1 : (p != q) = false := by simpa using hpq
          clear hpq
          go_wp2
          go_quiet (fail)
          have HB2 : Hid (Below w.heap.size w (wr.drewN nq)) := ((Fr.of_below HB.out (fun _ => False)).drewN nq).to_below (Nat.le_refl _) fun _ _ h => h
          clear hc1 hc2 HB
          go_wp2
          refine ⟨⟨i + 1, by simp, by omega, HB2⟩, ?_⟩
          simp [intOf]
          omega
        · have d1 : (p != q) = true := by simpa using hpq
          clear hpq
          go_wp2
          go_quiet (fail)
          have HB2 : Hid (Below w.heap.size w (wr.drewN nq)) := ((Fr.of_below HB.out (fun _ => False)).drewN nq).to_below (Nat.le_refl _) fun _ _ h => h
          clear hc1 hc2 HB
          go_wp2
          go_ret
          exact ⟨⟨_, rfl⟩, HB2.out⟩
      · obtain rfl : i = N := by omega
        go_wp2
        go_ret
        exact ⟨⟨_, rfl⟩, HB.out⟩
  · have d0 : ((N : Int) != (M : Int)) = true := by rw [bne_iff_ne]; omega
    clear hnm
    go_enter Try.func21, Try.ntmps21
    go_wp2
    go_ret
    exact ⟨⟨_, rfl⟩, Below.refl _ _⟩
theorem mvF_box {P : Nat → Prop} {w : World} {a : PMove} {c : List Value} (h : MvF P w a c) : ∃ a1 c1 a2 c2, c = mvC a (.slice a1 a.reads.length c1) (.slice a2 a.writes.length c2) ∧ RowL P w 1 (.slice a1 a.reads.length c1) a.reads.length (a.reads.map intV) ∧ RowL P w 1 (.slice a2 a.writes.length c2) a.writes.length (a.writes.map intV) := by
  obtain ⟨vr, vw, rfl, h1, h2⟩ := h
  obtain ⟨a1, c1, rfl, _, _, _⟩ := h1.form
  obtain ⟨a2, c2, rfl, _, _, _⟩ := h2.form
  exact ⟨a1, c1, a2, c2, rfl, h1, h2⟩
set_option maxHeartbeats 4000000 in
set_option maxRecDepth 100000 in
theorem moveEq {P P' : Nat → Prop} {w : World} {a : PMove} {c c' : List Value} (h : MvF P w a c) (h' : MvF P' w a c') (hn : a.reads.length ≤ 2000000 ∧ a.writes.length ≤ 2000000) : Calls Try.prog 10 #[.agg c.toArray, .agg c'.toArray] w (BoolB true w) := by
  obtain ⟨a1, c1, a2, c2, rfl, h1, h2⟩ := mvF_box h
  obtain ⟨a3, c3, a4, c4, rfl, h3, h4⟩ := mvF_box h'
  obtain ⟨w1, hw1⟩ : ∃ W, W = (w.alloc (.cells (mvC a (.slice a1 a.reads.length c1) (.slice a2 a.writes.length c2)).toArray 44)).alloc (.cells (mvC a (.slice a3 a.reads.length c3) (.slice a4 a.writes.length c4)).toArray 44) := ⟨_, rfl⟩
  have hb1 : Below w.heap.size w w1 := by rw [hw1]; exact ((Below.refl _ _).alloc (Nat.le_refl _) _).alloc (by simp) _
  have d1 : Holds w1 w.heap.size 44 (mvC a (.slice a1 a.reads.length c1) (.slice a2 a.writes.length c2)) := by
    rw [hw1]
    exact (Holds.new w 44 (mvC a (.slice a1 a.reads.length c1) (.slice a2 a.writes.length c2)).toArray).alloc _
  have d2 : Holds w1 (w.heap.size + 1) 44 (mvC a (.slice a3 a.reads.length c3) (.slice a4 a.writes.length c4)) := by
    have h := Holds.new (w.alloc (.cells (mvC a (.slice a1 a.reads.length c1) (.slice a2 a.writes.length c2)).toArray 44)) 44 (mvC a (.slice a3 a.reads.length c3) (.slice a4 a.writes.length c4)).toArray
    simp only [World.size_alloc] at h
    rw [hw1]
    exact h
  have HB1 := Lib.hid hb1
  have D1 := Lib.hid d1
  have D2 := Lib.hid d2
  have H1 := Lib.hid (h1.up (Keep.below hb1))
  have H2 := Lib.hid (h2.up (Keep.below hb1))
  have H3 := Lib.hid (h3.up (Keep.below hb1))
  have H4 := Lib.hid (h4.up (Keep.below hb1))
  have e6 := d1.cell 6
  have f6 := d2.cell 6
  simp only [mvC, List.getElem?_cons_zero, List.getElem?_cons_succ] at e6 f6 hw1 ⊢
  clear hb1 d1 d2 h1 h2 h3 h4 h h'
  go_enter Try.func10, Try.ntmps10
  go_upto_region 1 with (fail)
  rw [← hw1]
  clear hw1
  go_wp2_with (fail)
  refine (sameFn H1.out H3.out hn.1).mono ?_
  rintro e w2 ⟨rfl, hb2⟩
  have e7 := (D1.out.belowAll hb2).cell 7
  have f7 := (D2.out.belowAll hb2).cell 7
  simp only [mvC, List.getElem?_cons_zero, List.getElem?_cons_succ] at e7 f7
  have H22 := Lib.hid (H2.out.up (Keep.below hb2))
  have H42 := Lib.hid (H4.out.up (Keep.below hb2))
  have HB2 : Hid (Below w.heap.size w w2) := HB1.out.trans (hb2.mono HB1.out.size)
  have D12 := Lib.hid (D1.out.belowAll hb2)
  have D22 := Lib.hid (D2.out.belowAll hb2)
  clear hb2 D1 D2 H2 H4 e6 f6
  go_wp2_with (fail)
  refine (sameFn H22.out H42.out hn.2).mono ?_
  rintro e w3 ⟨rfl, hb3⟩
  have E := D12.out.belowAll hb3
  have G := D22.out.belowAll hb3
  have e0 := E.cell 0
  have e1 := E.cell 1
  have e2 := E.cell 2
  have e3 := E.cell 3
  have e4 := E.cell 4
  have e5 := E.cell 5
  have e8 := E.cell 8
  have g0 := G.cell 0
  have g1 := G.cell 1
  have g2 := G.cell 2
  have g3 := G.cell 3
  have g4 := G.cell 4
  have g5 := G.cell 5
  have g8 := G.cell 8
  simp only [mvC, List.getElem?_cons_zero, List.getElem?_cons_succ] at e0 e1 e2 e3 e4 e5 e8 g0 g1 g2 g3 g4 g5 g8
  have HB3 : Hid (Below w.heap.size w w3) := HB2.out.trans (hb3.mono HB2.out.size)
  clear hb3 E G e7 f7
  go_wp2
  go_ret
  exact ⟨rfl, HB3.out⟩
set_option maxHeartbeats 4000000 in
set_option maxRecDepth 100000 in
theorem moveNe {P P' : Nat → Prop} {w : World} {a b : PMove} {c c' : List Value} (h : MvF P w a c) (h' : MvF P' w b c') (hn : a.reads.length ≤ 2000000 ∧ a.writes.length ≤ 2000000) (hm : b.reads.length ≤ 2000000 ∧ b.writes.length ≤ 2000000) (hne : a.proc ≠ b.proc) : Calls Try.prog 10 #[.agg c.toArray, .agg c'.toArray] w (BoolB false w) := by
  obtain ⟨a1, c1, a2, c2, rfl, h1, h2⟩ := mvF_box h
  obtain ⟨a3, c3, a4, c4, rfl, h3, h4⟩ := mvF_box h'
  obtain ⟨w1, hw1⟩ : ∃ W, W = (w.alloc (.cells (mvC a (.slice a1 a.reads.length c1) (.slice a2 a.writes.length c2)).toArray 44)).alloc (.cells (mvC b (.slice a3 b.reads.length c3) (.slice a4 b.writes.length c4)).toArray 44) := ⟨_, rfl⟩
  have hb1 : Below w.heap.size w w1 := by rw [hw1]; exact ((Below.refl _ _).alloc (Nat.le_refl _) _).alloc (by simp) _
  have d1 : Holds w1 w.heap.size 44 (mvC a (.slice a1 a.reads.length c1) (.slice a2 a.writes.length c2)) := by
    rw [hw1]
    exact (Holds.new w 44 (mvC a (.slice a1 a.reads.length c1) (.slice a2 a.writes.length c2)).toArray).alloc _
  have d2 : Holds w1 (w.heap.size + 1) 44 (mvC b (.slice a3 b.reads.length c3) (.slice a4 b.writes.length c4)) := by
    have h := Holds.new (w.alloc (.cells (mvC a (.slice a1 a.reads.length c1) (.slice a2 a.writes.length c2)).toArray 44)) 44 (mvC b (.slice a3 b.reads.length c3) (.slice a4 b.writes.length c4)).toArray
    simp only [World.size_alloc] at h
    rw [hw1]
    exact h
  have HB1 := Lib.hid hb1
  have D1 := Lib.hid d1
  have D2 := Lib.hid d2
  have H1 := Lib.hid (h1.up (Keep.below hb1))
  have H2 := Lib.hid (h2.up (Keep.below hb1))
  have H3 := Lib.hid (h3.up (Keep.below hb1))
  have H4 := Lib.hid (h4.up (Keep.below hb1))
  have e6 := d1.cell 6
  have f6 := d2.cell 6
  simp only [mvC, List.getElem?_cons_zero, List.getElem?_cons_succ] at e6 f6 hw1 ⊢
  have d0 : (a.proc == b.proc) = false := by simpa using hne
  clear hb1 d1 d2 h1 h2 h3 h4 h h' hne
  go_enter Try.func10, Try.ntmps10
  go_upto_region 1 with (fail)
  rw [← hw1]
  clear hw1
  go_wp2_with (fail)
  refine (sameAnyFn H1.out H3.out hn.1 hm.1).mono ?_
  rintro e w2 ⟨⟨q1, rfl⟩, hb2⟩
  have e7 := (D1.out.belowAll hb2).cell 7
  have f7 := (D2.out.belowAll hb2).cell 7
  simp only [mvC, List.getElem?_cons_zero, List.getElem?_cons_succ] at e7 f7
  have H22 := Lib.hid (H2.out.up (Keep.below hb2))
  have H42 := Lib.hid (H4.out.up (Keep.below hb2))
  have HB2 : Hid (Below w.heap.size w w2) := HB1.out.trans (hb2.mono HB1.out.size)
  have D12 := Lib.hid (D1.out.belowAll hb2)
  have D22 := Lib.hid (D2.out.belowAll hb2)
  clear hb2 D1 D2 H2 H4 e6 f6
  go_wp2_with (fail)
  refine (sameAnyFn H22.out H42.out hn.2 hm.2).mono ?_
  rintro e w3 ⟨⟨q2, rfl⟩, hb3⟩
  have e0 := (D12.out.belowAll hb3).cell 0
  have g0 := (D22.out.belowAll hb3).cell 0
  simp only [mvC, List.getElem?_cons_zero, List.getElem?_cons_succ] at e0 g0
  have HB3 : Hid (Below w.heap.size w w3) := HB2.out.trans (hb3.mono HB2.out.size)
  clear hb3 e7 f7
  cases q1 with
  | false =>
    go_wp2
    go_ret
    exact ⟨rfl, HB3.out⟩
  | true =>
    cases q2 with
    | false =>
      go_wp2
      go_ret
      exact ⟨rfl, HB3.out⟩
    | true =>
      go_wp2
      go_ret
      exact ⟨rfl, HB3.out⟩
set_option maxRecDepth 100000 in
theorem pick17 (c : Int) (n : Nat) (h : -9223372036854775808 ≤ c ∧ c ≤ 9223372036854775807) (h0 : 0 < n) (hn : n ≤ 2000000) (w : World) : Calls Try.prog 5 #[.int .i64 c, .int .i64 (n : Int)] w (fun e w' => (∃ r : Nat, r < n ∧ e = .returned (.int .i64 (r : Int))) ∧ w' = w) := by
  have HH := Lib.hid h
  have d0 : ((n : Int) == 0) = false := by rw [Bool.eq_false_iff]; intro h3; have h4 := eq_of_beq h3; omega
  have d1 : ((n : Int) == -1) = false := by rw [Bool.eq_false_iff]; intro h3; have h4 := eq_of_beq h3; omega
  have hz : ¬ (n : Int) = 0 := by omega
  have hz1 : ¬ (n : Int) = -1 := by omega
  have key : ∀ x : Int, 0 ≤ x → ∃ r : Nat, r < n ∧ x.tmod (n : Int) = (r : Int) := fun x hx => by
    have hm : x.tmod (n : Int) = x % (n : Int) := Int.tmod_eq_emod_of_nonneg hx
    have h1 := Int.emod_nonneg x hz
    have h2 := Int.emod_lt_of_pos x (show (0 : Int) < (n : Int) by omega)
    exact ⟨(x % (n : Int)).toNat, by omega, by rw [hm, Int.toNat_of_nonneg h1]⟩
  by_cases hc : c < 0
  · have hw1 : IntKind.i64.wrap (c + 1) = c + 1 := by rw [IntKind.wrap_i64]; omega
    have hw2 : IntKind.i64.wrap (-(c + 1)) = -(c + 1) := by rw [IntKind.wrap_i64]; omega
    obtain ⟨r, hr, he⟩ := key (-(c + 1)) (by omega)
    have hw3 : IntKind.i64.wrap ((-(c + 1)).tmod (n : Int)) = (r : Int) := by rw [he, IntKind.wrap_i64]; omega
    have HE := Lib.hid he
    have HR := Lib.hid hr
    clear h key he hr h0 hn
    go_enter Try.func5, Try.ntmps5
    go_wp2
    go_ret
    exact ⟨⟨r, HR.out, by have h := HE.out; rw [Int.neg_tmod] at h; rw [← h]; rfl⟩, rfl⟩
  · obtain ⟨r, hr, he⟩ := key c (by omega)
    have hw3 : IntKind.i64.wrap (c.tmod (n : Int)) = (r : Int) := by rw [he, IntKind.wrap_i64]; omega
    have HR := Lib.hid hr
    clear h key hr h0 hn
    go_enter Try.func5, Try.ntmps5
    go_wp2
    go_ret
    exact ⟨⟨r, HR.out, rfl⟩, rfl⟩
end Go.Proofs.Ytokkjifmgmngjaa.G
