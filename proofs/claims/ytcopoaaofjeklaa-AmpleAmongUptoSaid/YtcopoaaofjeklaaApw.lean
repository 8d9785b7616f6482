/- The walk of AmpleApart: footprints as arguments, opened. -/
import Derived.Test.YtcopoaaofjeklaaAkn
import Derived.Test.YtcopoaaofjeklaaOpt
namespace Go.Proofs.Ytcopoaaofjeklaa.G
open Go.RowKit Go.Maps Go.ChangeShapes Go.WideShapes Go.Deep Go.Joins
set_option linter.unusedVariables false
set_option linter.unusedSimpArgs false

section
variable {H : Type} {enc : TypeId × Value → H} {w : World} {base : Nat} {held : Bool}
theorem cells_foot : Try.prog.cellsOf 25 = 3 := by kernel_rfl
set_option maxRecDepth 100000 in
theorem open_foot {r : Reach} {b0 : Nat} {v : Value} {d : DataW H} {p : List MemPlace} (hv : Value.okWide Try.prog w r b0 25 v) (h : DataW.Trod enc Try.prog w base (fun _ => true) held 25 v d p) :
    ∃ f : PFoot, FtV (fun _ => True) w v f ∧ SmallF f := by
  obtain ⟨cs, rfl, hsz⟩ := okWide_struct Try.underlying25 hv
  rw [cells_foot] at hsz
  obtain ⟨l⟩ := cs
  match l, hsz with
  | [c0, c1, c2], _ =>
    obtain ⟨fuel, hf0⟩ := h
    obtain ⟨xs, n, _, hx1, _, hxl, hf⟩ := DataW.trod_struct Try.underlying25 hf0
    have h0 : DataW.trod enc Try.prog w base (fun _ => true) held n 22 ((([c0, c1, c2] : List Value).drop 0).take (Try.prog.cellsOf 22)) = xs[0]? := hf 0 _ rfl
    have h1 : DataW.trod enc Try.prog w base (fun _ => true) held n 22 ((([c0, c1, c2] : List Value).drop 1).take (Try.prog.cellsOf 22)) = xs[1]? := hf 1 _ rfl
    have h2 : DataW.trod enc Try.prog w base (fun _ => true) held n 23 ((([c0, c1, c2] : List Value).drop 2).take (Try.prog.cellsOf 23)) = xs[2]? := hf 2 _ rfl
    have hxl' : xs.length = 3 := hxl
    simp only [cells_ints, cells_u64, List.drop_zero, List.take_succ_cons, List.take_zero, List.drop_succ_cons] at h0 h1 h2
    rw [List.getElem?_eq_getElem (by omega)] at h0 h1 h2
    obtain ⟨lr, hr1, _⟩ := open_rowI h0
    obtain ⟨lw, hw1, _⟩ := open_rowI h1
    obtain ⟨z, e2, _, hz⟩ := DataW.trod_int Try.underlying23 h2
    injection e2 with e2 _
    subst e2
    have hz' := wf_u64 hz
    obtain ⟨_, _, _, q1, q2, _⟩ := hr1.form
    obtain ⟨_, _, _, q3, q4, _⟩ := hw1.form
    exact ⟨⟨lr, lw, z.toNat⟩, ⟨c0, c1, by rw [Int.toNat_of_nonneg hz'.1], hr1, hw1⟩, Nat.le_trans q1 q2, Nat.le_trans q3 q4⟩
end
theorem lawApart {P P' : Nat → Prop} {w : World} {va vb : Value} {a b : PFoot} (ha : FtV P w va a) (hsa : SmallF a) (hb : FtV P' w vb b) (hsb : SmallF b) : Calls Try.prog 3 #[va, vb] w (Yes w) := by
  have ha := ha.mono (Q := fun q => q < w.heap.size) fun q _ hq => hq
  have hb := hb.mono (Q := fun q => q < w.heap.size) fun q _ hq => hq
  have HRA : Hid (∀ W, Below w.heap.size w W → Calls Try.prog 6 #[va, vb] W (BoolB (apartP a b) W)) := fun W hW => refApartFn (ha.up (Keep.below hW)) hsa (hb.up (Keep.below hW)) hsb
  have HA1 : Hid (∀ W, Below w.heap.size w W → Calls Try.prog 7 #[va, vb] W (BoolB (apartP a b) W)) := fun W hW => apartFn (ha.up (Keep.below hW)) hsa (hb.up (Keep.below hW)) hsb
  have HA2 : Hid (∀ W, Below w.heap.size w W → Calls Try.prog 7 #[vb, va] W (BoolB (apartP a b) W)) := fun W hW => by rw [apart_symm]; exact apartFn (hb.up (Keep.below hW)) hsb (ha.up (Keep.below hW)) hsa
  obtain ⟨vr, vw, rfl, hr, hw⟩ := ha
  obtain ⟨ur, uw, rfl, kr, kw⟩ := hb
  obtain ⟨a1, c1, rfl, _, _, _⟩ := hr.form
  obtain ⟨a2, c2, rfl, _, _, _⟩ := hw.form
  obtain ⟨a3, c3, rfl, _, _, _⟩ := kr.form
  obtain ⟨a4, c4, rfl, _, _, _⟩ := kw.form
  obtain ⟨r, hap⟩ : ∃ r, apartP a b = r := ⟨_, rfl⟩
  rw [hap] at HRA HA1 HA2
  obtain ⟨n1, hn1⟩ : ∃ n, a.reads.length = n := ⟨_, rfl⟩
  obtain ⟨n2, hn2⟩ : ∃ n, a.writes.length = n := ⟨_, rfl⟩
  obtain ⟨n3, hn3⟩ : ∃ n, b.reads.length = n := ⟨_, rfl⟩
  obtain ⟨n4, hn4⟩ : ∃ n, b.writes.length = n := ⟨_, rfl⟩
  obtain ⟨t1, ht1⟩ : ∃ n, a.turns = n := ⟨_, rfl⟩
  obtain ⟨t2, ht2⟩ : ∃ n, b.turns = n := ⟨_, rfl⟩
  rw [hn1, hn2, hn3, hn4, ht1, ht2] at HRA HA1 HA2 ⊢
  obtain ⟨w1, hw1⟩ : ∃ W, W = (w.alloc (.cells #[.slice a1 n1 c1, .slice a2 n2 c2, .int .u64 (t1 : Int)] 25)).alloc (.cells #[.slice a3 n3 c3, .slice a4 n4 c4, .int .u64 (t2 : Int)] 25) := ⟨_, rfl⟩
  have hb1 : Below w.heap.size w w1 := by rw [hw1]; exact ((Below.refl _ _).alloc (Nat.le_refl _) _).alloc (by simp) _
  have h2 : Holds w1 w.heap.size 25 [.slice a1 n1 c1, .slice a2 n2 c2, .int .u64 (t1 : Int)] := by rw [hw1]; exact (Holds.new w 25 #[.slice a1 n1 c1, .slice a2 n2 c2, .int .u64 (t1 : Int)]).alloc _
  have h3 : Holds w1 (w.heap.size + 1) 25 [.slice a3 n3 c3, .slice a4 n4 c4, .int .u64 (t2 : Int)] := by
    have h := Holds.new (w.alloc (.cells #[.slice a1 n1 c1, .slice a2 n2 c2, .int .u64 (t1 : Int)] 25)) 25 #[.slice a3 n3 c3, .slice a4 n4 c4, .int .u64 (t2 : Int)]
    simp only [World.size_alloc] at h
    rw [hw1]; exact h
  have HB1 := Lib.hid hb1
  have H2 := Lib.hid h2
  have H3 := Lib.hid h3
  have x0 := h2.cell 0
  have x1 := h2.cell 1
  have x2 := h2.cell 2
  have y0 := h3.cell 0
  have y1 := h3.cell 1
  have y2 := h3.cell 2
  simp only [List.getElem?_cons_zero, List.getElem?_cons_succ] at x0 x1 x2 y0 y1 y2
  obtain ⟨z, hz⟩ : ∃ z : Int, wrap64 (wrap64 (wrap64 ((n1 : Int) + (n2 : Int)) + (n3 : Int)) + (n4 : Int)) = z := ⟨_, rfl⟩
  clear hsa hsb hr hw kr kw hap hn1 hn2 hn3 hn4 ht1 ht2 hb1 h2 h3
  go_enter Try.func3, Try.ntmps3
  go_upto_region 1 with (fail)
  rw [← hw1]
  clear hw1
  by_cases hz3 : 3000 < z
  · go_wp2_with (fail)
    refine (knownFn w1).mono ?_
    rintro e w2 ⟨rfl, hb2⟩
    have HBZ : Hid (Below w.heap.size w w2) := HB1.out.trans (hb2.mono HB1.out.size)
    clear hb2
    go_wp2
    go_ret
    exact ⟨rfl, HBZ.out⟩
  · go_wp2_with (fail)
    refine (HRA.out w1 HB1.out).mono ?_
    rintro e w2 ⟨rfl, hb2⟩
    have HB2 : Hid (Below w.heap.size w w2) := HB1.out.trans (hb2.mono HB1.out.size)
    have H22 := Lib.hid (H2.out.belowAll hb2)
    have H32 := Lib.hid (H3.out.belowAll hb2)
    have x0 := H22.out.cell 0
    have x1 := H22.out.cell 1
    have x2 := H22.out.cell 2
    have y0 := H32.out.cell 0
    have y1 := H32.out.cell 1
    have y2 := H32.out.cell 2
    simp only [List.getElem?_cons_zero, List.getElem?_cons_succ] at x0 x1 x2 y0 y1 y2
    clear hb2 H2 H3
    go_wp2_with (fail)
    refine (HA1.out w2 HB2.out).mono ?_
    rintro e w3 ⟨rfl, hb3⟩
    have HB3 : Hid (Below w.heap.size w w3) := HB2.out.trans (hb3.mono HB2.out.size)
    have H23 := Lib.hid (H22.out.belowAll hb3)
    have H33 := Lib.hid (H32.out.belowAll hb3)
    have x0 := H23.out.cell 0
    have x1 := H23.out.cell 1
    have x2 := H23.out.cell 2
    have y0 := H33.out.cell 0
    have y1 := H33.out.cell 1
    have y2 := H33.out.cell 2
    simp only [List.getElem?_cons_zero, List.getElem?_cons_succ] at x0 x1 x2 y0 y1 y2
    clear hb3 H22 H32
    cases r with
    | true =>
      go_wp2_with (fail)
      refine (HA2.out w3 HB3.out).mono ?_
      rintro e w4 ⟨rfl, hb4⟩
      have HB4 : Hid (Below w.heap.size w w4) := HB3.out.trans (hb4.mono HB3.out.size)
      clear hb4 x0 x1 x2 y0 y1 y2
      go_wp2_with (fail)
      refine (knownFn w4).mono ?_
      rintro e w5 ⟨rfl, hb5⟩
      have HBZ : Hid (Below w.heap.size w w5) := HB4.out.trans (hb5.mono HB4.out.size)
      clear hb5
      go_wp2
      go_ret
      exact ⟨rfl, HBZ.out⟩
    | false =>
      go_wp2_with (fail)
      refine (HA2.out w3 HB3.out).mono ?_
      rintro e w4 ⟨rfl, hb4⟩
      have HB4 : Hid (Below w.heap.size w w4) := HB3.out.trans (hb4.mono HB3.out.size)
      clear hb4 x0 x1 x2 y0 y1 y2
      go_wp2_with (fail)
      refine (knownFn w4).mono ?_
      rintro e w5 ⟨rfl, hb5⟩
      have HBZ : Hid (Below w.heap.size w w5) := HB4.out.trans (hb5.mono HB4.out.size)
      clear hb5
      go_wp2
      go_ret
      exact ⟨rfl, HBZ.out⟩
end Go.Proofs.Ytcopoaaofjeklaa.G
