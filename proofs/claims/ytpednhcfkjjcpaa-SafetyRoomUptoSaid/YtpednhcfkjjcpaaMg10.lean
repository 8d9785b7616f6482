/- Mvs, Mvq, joined. -/
import Derived.Test.YtpednhcfkjjcpaaGal
import Derived.Test.YtpednhcfkjjcpaaRhg
import Derived.Test.YtpednhcfkjjcpaaMg5
section
/- Rows of moves in memory; a few small laws. -/
namespace Go.Proofs.Ytpednhcfkjjcpaa.G
open Go.RowKit Go.Maps
set_option linter.unusedVariables false
set_option linter.unusedSimpArgs false

theorem at_int {P : Nat → Prop} {w : World} {a : Option Addr} {n c : Nat} {l : List Int} (h : RowL P w 1 (.slice a n c) l.length (l.map intV)) {i : Nat} (hi : i < l.length) : ∃ g o, a = some ⟨g, o, none⟩ ∧ w.cell? ⟨g, o + i, none⟩ = some (.int .i64 l[i]) := by
  obtain ⟨g, o, c', x, he, hx, hc⟩ := h.at1 hi
  injection he with he _ _
  rw [List.getElem?_map, List.getElem?_eq_getElem hi] at hx
  injection hx with hx
  exact ⟨g, o, he, by rw [hc, ← hx]; rfl⟩
def BoolB (b : Bool) (w : World) (e : Ending) (w' : World) : Prop := e = .returned (.bool b) ∧ Below w.heap.size w w'
def MvF (P : Nat → Prop) (w : World) (a : PMove) (c : List Value) : Prop := ∃ vr vw, c = mvC a vr vw ∧ RowL P w 1 vr a.reads.length (a.reads.map intV) ∧ RowL P w 1 vw a.writes.length (a.writes.map intV)
theorem MvF.mono {P Q : Nat → Prop} {w : World} (hl : Wide P Q w) {a : PMove} {c : List Value} (h : MvF P w a c) : MvF Q w a c := by
  obtain ⟨vr, vw, h1, h2, h3⟩ := h
  exact ⟨vr, vw, h1, h2.mono hl, h3.mono hl⟩
theorem oneMv : One MvF 9 := ⟨fun ⟨vr, vw, h, _⟩ => by rw [h]; rfl, fun ⟨vr, vw, h, h2, h3⟩ => by
  have q1 := h2.cell1
  have q2 := h3.cell1
  rw [h]
  simp [mvC, q1, q2]
  simp [Value.oneCell'], fun hu ⟨vr, vw, h1, h2, h3⟩ => ⟨vr, vw, h1, h2.up hu, h3.up hu⟩⟩
theorem MvF.of {P : Nat → Prop} {w : World} {a : PMove} {c : List Value} (h : MovG P w a c) : MvF P w a c := by
  obtain ⟨vr, vw, h1, h2, h3⟩ := h
  exact ⟨vr, vw, h1, h2.1, h3.1⟩
/-- Moves, as a list in memory. -/
def MvsV (P : Nat → Prop) (w : World) (v : Value) (l : List PMove) : Prop := ∃ f, RowL P w 9 v l.length f ∧ LsF MvF P w l f
theorem MvsV.up {P : Nat → Prop} {w w' : World} {v : Value} {l : List PMove} (h : MvsV P w v l) (hu : Keep P w w') : MvsV P w' v l := by
  obtain ⟨f, h1, h2⟩ := h
  exact ⟨f, h1.up hu, LsF.up (fun _ _ => oneMv.up hu) _ h2⟩
theorem MvsV.mono {P Q : Nat → Prop} {w : World} {v : Value} {l : List PMove} (h : MvsV P w v l) (hl : Wide P Q w) : MvsV Q w v l := by
  obtain ⟨f, h1, h2⟩ := h
  exact ⟨f, h1.mono hl, LsF.mono (fun _ _ => MvF.mono hl) _ h2⟩
theorem MvsV.nil (P : Nat → Prop) (w : World) : MvsV P w (.slice none 0 0) [] := ⟨[], RowL.nil _ _ _, rfl⟩
theorem MvsV.ptr {P : Nat → Prop} {w : World} {v : Value} {l : List PMove} {n : Nat} (h : MvsV P w v l) (hn : l.length = n) (h0 : 0 < n) : ∃ g o c, v = .slice (some ⟨g, o, none⟩) n c := by
  obtain ⟨f, hr, hg⟩ := h
  subst hn
  obtain ⟨g, o, c, cs, he, _⟩ := hr.atN oneMv hg h0
  exact ⟨g, o, c, he⟩
theorem MvsV.elem {P : Nat → Prop} {w : World} {g o n c : Nat} {l : List PMove} (h : MvsV P w (.slice (some ⟨g, o, none⟩) n c) l) (k : Nat) (hk : k < l.length) : ∃ cs, MvF P w l[k] cs ∧ w.rangeAt g (o + k * 9) cs := by
  obtain ⟨f, hr, hg⟩ := h
  have hn : n = l.length := by obtain ⟨_, _, he, _⟩ := hr; injection he
  subst hn
  obtain ⟨g', o', c', cs, he, hG, hrr⟩ := hr.atN oneMv hg hk
  injection he with he _ _
  injection he with he
  injection he with he1 he2
  subst he1 he2
  exact ⟨cs, hG, hrr⟩
theorem cell_up {w w' : World} {g o : Nat} {v : Value} (h : w.cell? ⟨g, o, none⟩ = some v) (hb : Below w.heap.size w w') : w'.cell? ⟨g, o, none⟩ = some v := by
  rw [hb.cell (World.block_lt_of_cell? w _ h)]; exact h
theorem below_drewN {base : Nat} {w w' : World} (h : Below base w w') (hb : base ≤ w.heap.size) (n : Nat) : Below base w (w'.drewN n) := h.trans (⟨rfl, rfl, rfl, Nat.le_refl _, fun _ _ => rfl⟩ : Below base w' (w'.drewN n))
/-- What lies in a row of moves, at a place. -/
theorem MvsV.cells {P : Nat → Prop} {w : World} {g o n c : Nat} {l : List PMove} (h : MvsV P w (.slice (some ⟨g, o, none⟩) n c) l) (k : Nat) {m : PMove} (hk : l[k]? = some m) : w.cell? ⟨g, o + k * 9, none⟩ = some (.int .i64 m.proc) ∧ w.cell? ⟨g, o + k * 9 + 4, none⟩ = some (.string m.dst) ∧ w.cell? ⟨g, o + k * 9 + 5, none⟩ = some (.int .i64 m.bad) ∧ w.cell? ⟨g, o + k * 9 + 8, none⟩ = some (.int .u64 (m.turns : Int)) := by
  obtain ⟨hkl, rfl⟩ := List.getElem?_eq_some_iff.1 hk
  obtain ⟨cs, ⟨vr, vw, rfl, _⟩, hrr⟩ := h.elem k hkl
  exact ⟨hrr 0 _ rfl, hrr 4 _ rfl, hrr 5 _ rfl, hrr 8 _ rfl⟩
end Go.Proofs.Ytpednhcfkjjcpaa.G
end
section
/- The walks of the reference's Same and Move at any two things, and of chapter 17's pick. -/
namespace Go.Proofs.Ytpednhcfkjjcpaa.G
open Go.RowKit Go.Maps
set_option linter.unusedVariables false
set_option linter.unusedSimpArgs false

def SomeB (w : World) (e : Ending) (w' : World) : Prop := (∃ b : Bool, e = .returned (.bool b)) ∧ Below w.heap.size w w'
set_option maxHeartbeats 1000000 in
theorem sameAnyFn {P P' : Nat → Prop} {w : World} {v v' : Value} {l l' : List Int} (h : RowL P w 1 v l.length (l.map intV)) (h' : RowL P' w 1 v' l'.length (l'.map intV)) (hn : l.length ≤ 2000000) (hn' : l'.length ≤ 2000000) : Calls Try.prog 40 #[v, v'] w (SomeB w) := by
  obtain ⟨a, c, rfl, hc1, _, _⟩ := h.form
  obtain ⟨a', c', rfl, hc1', _, _⟩ := h'.form
  obtain ⟨N, hN⟩ : ∃ N, l.length = N := ⟨_, rfl⟩
  obtain ⟨M, hM⟩ : ∃ M, l'.length = M := ⟨_, rfl⟩
  have H := Lib.hid h
  have H' := Lib.hid h'
  have HN := Lib.hid hN
  have HM := Lib.hid hM
  rw [hN] at hc1 hn
  rw [hM] at hc1' hn'
  rw [hN, hM]
  clear h h' hN hM
  by_cases hnm : N = M
  · subst hnm
    have d0 : ((N : Int) != (N : Int)) = false := by simp
    go_enter Try.func40, Try.ntmps40
    go_wp2
    go_loopw [5] (fun x wr => ∃ i : Nat, x = .int .i64 (i : Int) ∧ i ≤ N ∧ Hid (Below w.heap.size w wr)) (fun x _ => N - (intOf x).toNat)
    case atStart => exact ⟨0, rfl, Nat.zero_le _, Below.refl _ _⟩
    case round =>
      obtain ⟨i, hx, hi, HB⟩ := hrel
      subst hx
      by_cases hin : i < N
      · have hil : i < l.length := by rw [HN.out]; exact hin
        have hil' : i < l'.length := by rw [HM.out]; exact hin
        have hi2i : (i : Int) < (N : Int) := by omega
        have hi0i : (0 : Int) ≤ (i : Int) := by omega
        have hwii : IntKind.i64.wrap (i : Int) = (i : Int) := by rw [IntKind.wrap_i64]; omega
        have hwji : IntKind.i64.wrap ((i : Int) + 1) = (i : Int) + 1 := by rw [IntKind.wrap_i64]; omega
        have h1 := H.out.up (Keep.below HB.out)
        have h2 := H'.out.up (Keep.below HB.out)
        rw [HN.out] at h1
        rw [HM.out] at h2
        have h1' := h1
        have h2' := h2
        rw [← HN.out] at h1'
        rw [← HM.out] at h2'
        obtain ⟨g, ob, rfl, hc1⟩ := at_int (n := l.length) h1' hil
        obtain ⟨g', ob', rfl, hc2⟩ := at_int (n := l'.length) h2' hil'
        obtain ⟨p, hp⟩ : ∃ p, l[i] = p := ⟨_, rfl⟩
        obtain ⟨q, hq⟩ : ∃ q, l'[i] = q := ⟨_, rfl⟩
        rw [hp] at hc1
        rw [hq] at hc2
        clear hp hq h1 h2 h1' h2'
        by_cases hpq : p = q
        · have d1 : (p != q) = false := by simpa using hpq
          clear hpq
          go_wp2
          go_quiet (fail)
          have HB2 : Hid (Below w.heap.size w (wr.drewN nq)) := ((Fr.of_below HB.out (fun _ => False)).drewN nq).to_below (Nat.le_refl _) fun _ _ h => h
          clear hc1 hc2 HB
          go_wp2
          refine ⟨⟨i + 1, by simp, by omega, HB2⟩, ?_⟩
          simp [intOf]
          omega
        · have d1 : (p != q) = true := by simpa using hpq
          clear hpq
          go_wp2
          go_quiet (fail)
          have HB2 : Hid (Below w.heap.size w (wr.drewN nq)) := ((Fr.of_below HB.out (fun _ => False)).drewN nq).to_below (Nat.le_refl _) fun _ _ h => h
          clear hc1 hc2 HB
          go_wp2
          go_ret
          exact ⟨⟨_, rfl⟩, HB2.out⟩
      · obtain rfl : i = N := by omega
        go_wp2
        go_ret
        exact ⟨⟨_, rfl⟩, HB.out⟩
  · have d0 : ((N : Int) != (M : Int)) = true := by rw [bne_iff_ne]; omega
    clear hnm
    go_enter Try.func40, Try.ntmps40
    go_wp2
    go_ret
    exact ⟨⟨_, rfl⟩, Below.refl _ _⟩
theorem mvF_box {P : Nat → Prop} {w : World} {a : PMove} {c : List Value} (h : MvF P w a c) : ∃ a1 c1 a2 c2, c = mvC a (.slice a1 a.reads.length c1) (.slice a2 a.writes.length c2) ∧ RowL P w 1 (.slice a1 a.reads.length c1) a.reads.length (a.reads.map intV) ∧ RowL P w 1 (.slice a2 a.writes.length c2) a.writes.length (a.writes.map intV) := by
  obtain ⟨vr, vw, rfl, h1, h2⟩ := h
  obtain ⟨a1, c1, rfl, _, _, _⟩ := h1.form
  obtain ⟨a2, c2, rfl, _, _, _⟩ := h2.form
  exact ⟨a1, c1, a2, c2, rfl, h1, h2⟩
set_option maxHeartbeats 4000000 in
set_option maxRecDepth 100000 in
theorem moveEq {P P' : Nat → Prop} {w : World} {a : PMove} {c c' : List Value} (h : MvF P w a c) (h' : MvF P' w a c') (hn : a.reads.length ≤ 2000000 ∧ a.writes.length ≤ 2000000) : Calls Try.prog 28 #[.agg c.toArray, .agg c'.toArray] w (BoolB true w) := by
  obtain ⟨a1, c1, a2, c2, rfl, h1, h2⟩ := mvF_box h
  obtain ⟨a3, c3, a4, c4, rfl, h3, h4⟩ := mvF_box h'
  obtain ⟨w1, hw1⟩ : ∃ W, W = (w.alloc (.cells (mvC a (.slice a1 a.reads.length c1) (.slice a2 a.writes.length c2)).toArray 75)).alloc (.cells (mvC a (.slice a3 a.reads.length c3) (.slice a4 a.writes.length c4)).toArray 75) := ⟨_, rfl⟩
  have hb1 : Below w.heap.size w w1 := by rw [hw1]; exact ((Below.refl _ _).alloc (Nat.le_refl _) _).alloc (by simp) _
  have d1 : Holds w1 w.heap.size 75 (mvC a (.slice a1 a.reads.length c1) (.slice a2 a.writes.length c2)) := by
    rw [hw1]
    exact (Holds.new w 75 (mvC a (.slice a1 a.reads.length c1) (.slice a2 a.writes.length c2)).toArray).alloc _
  have d2 : Holds w1 (w.heap.size + 1) 75 (mvC a (.slice a3 a.reads.length c3) (.slice a4 a.writes.length c4)) := by
    have h := Holds.new (w.alloc (.cells (mvC a (.slice a1 a.reads.length c1) (.slice a2 a.writes.length c2)).toArray 75)) 75 (mvC a (.slice a3 a.reads.length c3) (.slice a4 a.writes.length c4)).toArray
    simp only [World.size_alloc] at h
    rw [hw1]
    exact h
  have HB1 := Lib.hid hb1
  have D1 := Lib.hid d1
  have D2 := Lib.hid d2
  have H1 := Lib.hid (h1.up (Keep.below hb1))
  have H2 := Lib.hid (h2.up (Keep.below hb1))
  have H3 := Lib.hid (h3.up (Keep.below hb1))
  have H4 := Lib.hid (h4.up (Keep.below hb1))
  have e6 := d1.cell 6
  have f6 := d2.cell 6
  simp only [mvC, List.getElem?_cons_zero, List.getElem?_cons_succ] at e6 f6 hw1 ⊢
  clear hb1 d1 d2 h1 h2 h3 h4 h h'
  go_enter Try.func28, Try.ntmps28
  go_upto_region 1 with (fail)
  rw [← hw1]
  clear hw1
  go_wp2_with (fail)
  refine (sameFn H1.out H3.out hn.1).mono ?_
  rintro e w2 ⟨rfl, hb2⟩
  have e7 := (D1.out.belowAll hb2).cell 7
  have f7 := (D2.out.belowAll hb2).cell 7
  simp only [mvC, List.getElem?_cons_zero, List.getElem?_cons_succ] at e7 f7
  have H22 := Lib.hid (H2.out.up (Keep.below hb2))
  have H42 := Lib.hid (H4.out.up (Keep.below hb2))
  have HB2 : Hid (Below w.heap.size w w2) := HB1.out.trans (hb2.mono HB1.out.size)
  have D12 := Lib.hid (D1.out.belowAll hb2)
  have D22 := Lib.hid (D2.out.belowAll hb2)
  clear hb2 D1 D2 H2 H4 e6 f6
  go_wp2_with (fail)
  refine (sameFn H22.out H42.out hn.2).mono ?_
  rintro e w3 ⟨rfl, hb3⟩
  have E := D12.out.belowAll hb3
  have G := D22.out.belowAll hb3
  have e0 := E.cell 0
  have e1 := E.cell 1
  have e2 := E.cell 2
  have e3 := E.cell 3
  have e4 := E.cell 4
  have e5 := E.cell 5
  have e8 := E.cell 8
  have g0 := G.cell 0
  have g1 := G.cell 1
  have g2 := G.cell 2
  have g3 := G.cell 3
  have g4 := G.cell 4
  have g5 := G.cell 5
  have g8 := G.cell 8
  simp only [mvC, List.getElem?_cons_zero, List.getElem?_cons_succ] at e0 e1 e2 e3 e4 e5 e8 g0 g1 g2 g3 g4 g5 g8
  have HB3 : Hid (Below w.heap.size w w3) := HB2.out.trans (hb3.mono HB2.out.size)
  clear hb3 E G e7 f7
  go_wp2
  go_ret
  exact ⟨rfl, HB3.out⟩
set_option maxHeartbeats 4000000 in
set_option maxRecDepth 100000 in
theorem moveNe {P P' : Nat → Prop} {w : World} {a b : PMove} {c c' : List Value} (h : MvF P w a c) (h' : MvF P' w b c') (hn : a.reads.length ≤ 2000000 ∧ a.writes.length ≤ 2000000) (hm : b.reads.length ≤ 2000000 ∧ b.writes.length ≤ 2000000) (hne : a.proc ≠ b.proc) : Calls Try.prog 28 #[.agg c.toArray, .agg c'.toArray] w (BoolB false w) := by
  obtain ⟨a1, c1, a2, c2, rfl, h1, h2⟩ := mvF_box h
  obtain ⟨a3, c3, a4, c4, rfl, h3, h4⟩ := mvF_box h'
  obtain ⟨w1, hw1⟩ : ∃ W, W = (w.alloc (.cells (mvC a (.slice a1 a.reads.length c1) (.slice a2 a.writes.length c2)).toArray 75)).alloc (.cells (mvC b (.slice a3 b.reads.length c3) (.slice a4 b.writes.length c4)).toArray 75) := ⟨_, rfl⟩
  have hb1 : Below w.heap.size w w1 := by rw [hw1]; exact ((Below.refl _ _).alloc (Nat.le_refl _) _).alloc (by simp) _
  have d1 : Holds w1 w.heap.size 75 (mvC a (.slice a1 a.reads.length c1) (.slice a2 a.writes.length c2)) := by
    rw [hw1]
    exact (Holds.new w 75 (mvC a (.slice a1 a.reads.length c1) (.slice a2 a.writes.length c2)).toArray).alloc _
  have d2 : Holds w1 (w.heap.size + 1) 75 (mvC b (.slice a3 b.reads.length c3) (.slice a4 b.writes.length c4)) := by
    have h := Holds.new (w.alloc (.cells (mvC a (.slice a1 a.reads.length c1) (.slice a2 a.writes.length c2)).toArray 75)) 75 (mvC b (.slice a3 b.reads.length c3) (.slice a4 b.writes.length c4)).toArray
    simp only [World.size_alloc] at h
    rw [hw1]
    exact h
  have HB1 := Lib.hid hb1
  have D1 := Lib.hid d1
  have D2 := Lib.hid d2
  have H1 := Lib.hid (h1.up (Keep.below hb1))
  have H2 := Lib.hid (h2.up (Keep.below hb1))
  have H3 := Lib.hid (h3.up (Keep.below hb1))
  have H4 := Lib.hid (h4.up (Keep.below hb1))
  have e6 := d1.cell 6
  have f6 := d2.cell 6
  simp only [mvC, List.getElem?_cons_zero, List.getElem?_cons_succ] at e6 f6 hw1 ⊢
  have d0 : (a.proc == b.proc) = false := by simpa using hne
  clear hb1 d1 d2 h1 h2 h3 h4 h h' hne
  go_enter Try.func28, Try.ntmps28
  go_upto_region 1 with (fail)
  rw [← hw1]
  clear hw1
  go_wp2_with (fail)
  refine (sameAnyFn H1.out H3.out hn.1 hm.1).mono ?_
  rintro e w2 ⟨⟨q1, rfl⟩, hb2⟩
  have e7 := (D1.out.belowAll hb2).cell 7
  have f7 := (D2.out.belowAll hb2).cell 7
  simp only [mvC, List.getElem?_cons_zero, List.getElem?_cons_succ] at e7 f7
  have H22 := Lib.hid (H2.out.up (Keep.below hb2))
  have H42 := Lib.hid (H4.out.up (Keep.below hb2))
  have HB2 : Hid (Below w.heap.size w w2) := HB1.out.trans (hb2.mono HB1.out.size)
  have D12 := Lib.hid (D1.out.belowAll hb2)
  have D22 := Lib.hid (D2.out.belowAll hb2)
  clear hb2 D1 D2 H2 H4 e6 f6
  go_wp2_with (fail)
  refine (sameAnyFn H22.out H42.out hn.2 hm.2).mono ?_
  rintro e w3 ⟨⟨q2, rfl⟩, hb3⟩
  have e0 := (D12.out.belowAll hb3).cell 0
  have g0 := (D22.out.belowAll hb3).cell 0
  simp only [mvC, List.getElem?_cons_zero, List.getElem?_cons_succ] at e0 g0
  have HB3 : Hid (Below w.heap.size w w3) := HB2.out.trans (hb3.mono HB2.out.size)
  clear hb3 e7 f7
  cases q1 with
  | false =>
    go_wp2
    go_ret
    exact ⟨rfl, HB3.out⟩
  | true =>
    cases q2 with
    | false =>
      go_wp2
      go_ret
      exact ⟨rfl, HB3.out⟩
    | true =>
      go_wp2
      go_ret
      exact ⟨rfl, HB3.out⟩
end Go.Proofs.Ytpednhcfkjjcpaa.G
end
