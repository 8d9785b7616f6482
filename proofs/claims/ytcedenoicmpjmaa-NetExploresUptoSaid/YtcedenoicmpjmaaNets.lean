/- The walks of the reference's Same and Nets at things that are the same (printed by mknets.py). -/
import Derived.Test.YtcedenoicmpjmaaChk
namespace Go.Proofs.Ytcedenoicmpjmaa
open Go.RowKit
set_option linter.unusedVariables false
set_option linter.unusedSimpArgs false

def Yes (w : World) (e : Ending) (w' : World) : Prop := e = .returned (.bool true) ∧ Below w.heap.size w w'
set_option maxHeartbeats 1000000 in
theorem sameFn {P P' : Nat → Prop} {w : World} {v v' : Value} {l : List Int} (h : RowL P w 1 v l.length (l.map intV)) (h' : RowL P' w 1 v' l.length (l.map intV)) (hn : l.length ≤ 2000000) : Calls Try.prog 37 #[v, v'] w (Yes w) := by
  obtain ⟨a, c, rfl, hc1, _, _⟩ := h.form
  obtain ⟨a', c', rfl, hc1', _, _⟩ := h'.form
  obtain ⟨N, hN⟩ : ∃ N, l.length = N := ⟨_, rfl⟩
  have H := Lib.hid h
  have H' := Lib.hid h'
  have HN := Lib.hid hN
  rw [hN] at hc1 hc1' hn
  rw [hN]
  clear h h' hN
  go_enter Try.func37, Try.ntmps37
  go_wp2
  go_loopw [5] (fun x wr => ∃ i : Nat, x = .int .i64 (i : Int) ∧ i ≤ N ∧ Hid (Below w.heap.size w wr)) (fun x _ => N - (intOf x).toNat)
  case atStart => exact ⟨0, rfl, Nat.zero_le _, Below.refl _ _⟩
  case round =>
    obtain ⟨i, hx, hi, HB⟩ := hrel
    subst hx
    by_cases hin : i < N
    · have hil : i < l.length := by rw [HN.out]; exact hin
      have hi2i : (i : Int) < (N : Int) := by omega
      have hi0i : (0 : Int) ≤ (i : Int) := by omega
      have hwii : IntKind.i64.wrap (i : Int) = (i : Int) := by rw [IntKind.wrap_i64]; omega
      have hwji : IntKind.i64.wrap ((i : Int) + 1) = (i : Int) + 1 := by rw [IntKind.wrap_i64]; omega
      obtain ⟨g, ob, cb, x, he1, hx1, hc1⟩ := (H.out.up (Keep.below HB.out)).at1 hil
      obtain ⟨g', ob', cb', x', he2, hx2, hc2⟩ := (H'.out.up (Keep.below HB.out)).at1 hil
      rw [hx1] at hx2
      injection hx2 with hx2
      subst hx2
      injection he1 with he1 _ he1'
      subst he1 he1'
      injection he2 with he2 _ he2'
      subst he2 he2'
      obtain ⟨q, hq⟩ : ∃ q : Int, x = .int .i64 q := by
        rw [List.getElem?_map, List.getElem?_eq_getElem hil] at hx1
        injection hx1 with hx1
        exact ⟨_, hx1.symm⟩
      subst hq
      clear hx1
      go_wp2
      go_quiet (fail)
      have HB2 : Hid (Below w.heap.size w (wr.drewN nq)) := ((Fr.of_below HB.out (fun _ => False)).drewN nq).to_below (Nat.le_refl _) fun _ _ h => h
      clear hc1 hc2 HB
      go_wp2
      refine ⟨⟨i + 1, by simp, by omega, HB2⟩, ?_⟩
      simp [intOf]
      omega
    · obtain rfl : i = N := by omega
      have HF : Hid (Yes w (.returned (.bool true)) wr) := ⟨rfl, HB.out⟩
      go_wp2
      go_ret
      exact HF.out
set_option maxHeartbeats 4000000 in
set_option maxRecDepth 100000 in
theorem netsFn {P P' : Nat → Prop} {w : World} {n : PNet} {v v' : Value} (h : NetV P w v n) (h' : NetV P' w v' n) (hs : Small n) : Calls Try.prog 18 #[.agg #[v], .agg #[v']] w (Yes w) := by
  obtain ⟨f, hr, hg⟩ := h
  obtain ⟨f', hr', hg'⟩ := h'
  obtain ⟨a, c, rfl, hc1, _, _⟩ := hr.form
  obtain ⟨a', c', rfl, hc1', _, _⟩ := hr'.form
  obtain ⟨M, hM⟩ : ∃ M, n.length = M := ⟨_, rfl⟩
  have hB0 : Below w.heap.size w ((w.alloc (.cells #[.slice a M c] 24)).alloc (.cells #[.slice a' M c'] 24)) := ((Below.refl _ _).alloc (Nat.le_refl _) _).alloc (by simp) _
  have H := Lib.hid (hr.up (Keep.below hB0))
  have G := Lib.hid (LsF.up (fun _ _ => oneNode.up (Keep.below hB0)) _ hg)
  have H' := Lib.hid (hr'.up (Keep.below hB0))
  have G' := Lib.hid (LsF.up (fun _ _ => oneNode.up (Keep.below hB0)) _ hg')
  have hX3 := Holds.new (w.alloc (.cells #[.slice a M c] 24)) 24 #[.slice a' M c']
  have hX2 := (Holds.new w 24 #[.slice a M c]).alloc (.cells #[.slice a' M c'] 24)
  have esz : (w.alloc (.cells #[.slice a M c] 24)).heap.size = w.heap.size + 1 := by simp
  rw [esz] at hX3
  have HX2 := Lib.hid hX2
  have HX3 := Lib.hid hX3
  have HN := Lib.hid hM
  have HS := Lib.hid hs
  have HB0 := Lib.hid hB0
  have hm := hs.nodes
  rw [hM] at hc1 hc1' hm ⊢
  clear hr hg hr' hg' hM hs hB0 hX2 hX3 esz
  go_enter Try.func18, Try.ntmps18
  go_upto_region 1 with (fail)
  obtain ⟨w0, hw0⟩ : ∃ W, W = (w.alloc (.cells #[.slice a M c] 24)).alloc (.cells #[.slice a' M c'] 24) := ⟨_, rfl⟩
  obtain ⟨b3, hb3⟩ : ∃ b, w.heap.size + 1 = b := ⟨_, rfl⟩
  rw [← hw0] at HX2 HX3 HB0 H G H' G' ⊢
  rw [hb3] at HX3 ⊢
  have e2 := HX2.out.cell 0
  have e3 := HX3.out.cell 0
  simp only [List.getElem?_cons_zero] at e2 e3
  clear hw0 hb3
  go_wp2
  clear e2 e3
  go_loopw [5] (fun x wr => ∃ i : Nat, x = .int .i64 (i : Int) ∧ i ≤ M ∧ Hid (Below w0.heap.size w0 wr)) (fun x _ => M - (intOf x).toNat)
  case atStart => exact ⟨0, rfl, Nat.zero_le _, Below.refl _ _⟩
  case round =>
    obtain ⟨i, hx, hi, HB⟩ := hrel
    subst hx
    have e2 := (HX2.out.belowAll HB.out).cell 0
    have e3 := (HX3.out.belowAll HB.out).cell 0
    simp only [List.getElem?_cons_zero] at e2 e3
    by_cases hin : i < M
    · have hi2i : (i : Int) < (M : Int) := by omega
      have hi0i : (0 : Int) ≤ (i : Int) := by omega
      have hwii : IntKind.i64.wrap (i : Int) = (i : Int) := by rw [IntKind.wrap_i64]; omega
      have hwji : IntKind.i64.wrap ((i : Int) + 1) = (i : Int) + 1 := by rw [IntKind.wrap_i64]; omega
      have hil : i < n.length := by rw [HN.out]; exact hin
      obtain ⟨gb, ob, cb, c, he1, hG1, hr1⟩ := (H.out.up (Keep.below HB.out)).atN oneNode (LsF.up (fun _ _ => oneNode.up (Keep.below HB.out)) _ G.out) hil
      injection he1 with he1 _ he1'
      subst he1 he1'
      have hl1 := oneNode.len hG1
      have hs1 : (Try.prog.info? 53).map (·.size) = some c.length := by rw [hl1]; exact sz_Node
      have HO1 := Lib.hid (oneNode.one hG1)
      have hZ : Holds (wr.alloc (.cells #[.slice none 0 0, .int .u64 0, .bool false, .bool false, .bool false] 53)) wr.heap.size 53 [.slice none 0 0, .int .u64 0, .bool false, .bool false, .bool false] := Holds.new wr 53 #[.slice none 0 0, .int .u64 0, .bool false, .bool false, .bool false]
      have HZ := Lib.hid hZ
      have HR1 := Lib.hid hr1
      have HG1 := Lib.hid hG1
      clear hr1 hG1 hZ
      go_wp2_with (first | (refine wpList_load_mid rfl 53 _ rfl gb (ob + i * 5) rfl c _ HR1.out Try.underlying53 rfl hs1 ?_) | (refine wpList_storeB rfl 53 _ _ rfl wr.heap.size 0 c rfl rfl HZ.out (by rw [hl1]; exact Nat.le_of_ble_eq_true rfl) hs1 HO1.out ?_))
      refine Named.mk (fun w7 hW => ?_)
      have hB7 : Below wr.heap.size wr w7 := by rw [hW]; exact Below.far (Below.refl _ _) (Nat.le_refl _) _ _ _
      have hD7 := HZ.out.stored hW (by rw [hl1]; exact Nat.le_of_ble_eq_true rfl)
      rw [List.take_zero, List.nil_append, List.drop_of_length_le (by rw [hl1]; exact Nat.le_of_ble_eq_true rfl), List.append_nil] at hD7
      have hG7 := oneNode.up (Keep.below hB7) HG1.out
      have HB7 := Lib.hid hB7
      have hX7 := hD7
      clear hW hB7 HZ HR1 HG1 hl1 hs1 HO1 hD7
      obtain ⟨X, hX⟩ : ∃ X, wr.heap.size = X := ⟨_, rfl⟩
      rw [hX] at hX7 ⊢
      clear hX
      have HX7 := Lib.hid hX7
      have HG7 := Lib.hid hG7
      have HB07 := Lib.hid (HB.out.trans (HB7.out.mono HB.out.size))
      clear hX7 hG7 e2 e3
      have e3 := (HX3.out.belowAll HB07.out).cell 0
      simp only [List.getElem?_cons_zero] at e3
      obtain ⟨gb, ob, cb, c, he1, hG1, hr1⟩ := (H'.out.up (Keep.below HB07.out)).atN oneNode (LsF.up (fun _ _ => oneNode.up (Keep.below HB07.out)) _ G'.out) hil
      injection he1 with he1 _ he1'
      subst he1 he1'
      have hl1 := oneNode.len hG1
      have hs1 : (Try.prog.info? 53).map (·.size) = some c.length := by rw [hl1]; exact sz_Node
      have HO1 := Lib.hid (oneNode.one hG1)
      have hZ : Holds (w7.alloc (.cells #[.slice none 0 0, .int .u64 0, .bool false, .bool false, .bool false] 53)) w7.heap.size 53 [.slice none 0 0, .int .u64 0, .bool false, .bool false, .bool false] := Holds.new w7 53 #[.slice none 0 0, .int .u64 0, .bool false, .bool false, .bool false]
      have HZ := Lib.hid hZ
      have HR1 := Lib.hid hr1
      have HG1 := Lib.hid hG1
      clear hr1 hG1 hZ
      go_wp2_with (first | (refine wpList_load_mid rfl 53 _ rfl gb (ob + i * 5) rfl c _ HR1.out Try.underlying53 rfl hs1 ?_) | (refine wpList_storeB rfl 53 _ _ rfl w7.heap.size 0 c rfl rfl HZ.out (by rw [hl1]; exact Nat.le_of_ble_eq_true rfl) hs1 HO1.out ?_))
      refine Named.mk (fun w8 hW => ?_)
      have hB7 : Below w7.heap.size w7 w8 := by rw [hW]; exact Below.far (Below.refl _ _) (Nat.le_refl _) _ _ _
      have hD7 := HZ.out.stored hW (by rw [hl1]; exact Nat.le_of_ble_eq_true rfl)
      rw [List.take_zero, List.nil_append, List.drop_of_length_le (by rw [hl1]; exact Nat.le_of_ble_eq_true rfl), List.append_nil] at hD7
      have hG8 := oneNode.up (Keep.below hB7) HG1.out
      have HB8 := Lib.hid hB7
      have hX8 := hD7
      clear hW hB7 HZ HR1 HG1 hl1 hs1 HO1 hD7
      obtain ⟨Y, hY⟩ : ∃ X, w7.heap.size = X := ⟨_, rfl⟩
      rw [hY] at hX8 ⊢
      clear hY
      have hX7 := HX7.out.belowAll HB8.out
      have hG7 := oneNode.up (Keep.below HB8.out) HG7.out
      obtain ⟨x, hx⟩ : ∃ x, n[i] = x := ⟨_, rfl⟩
      rw [hx] at hG7 hG8
      obtain ⟨va, rfl, fa, ra, ga⟩ := hG7
      obtain ⟨va', rfl, fa', ra', ga'⟩ := hG8
      obtain ⟨aa, ac, rfl, hac, _, _⟩ := ra.form
      obtain ⟨aa', ac', rfl, hac', _, _⟩ := ra'.form
      obtain ⟨K, hK⟩ : ∃ K, x.arcs.length = K := ⟨_, rfl⟩
      have hkm : K ≤ 2000000 := by have := node_le hil; rw [hx, hK] at this; have := HS.out.arcs; omega
      have HRA := Lib.hid ra
      have HGA := Lib.hid ga
      have HRA' := Lib.hid ra'
      have HGA' := Lib.hid ga'
      have HK := Lib.hid hK
      have HXX := Lib.hid hx
      rw [hK] at hac hac'
      have f0 := hX7.cell 0
      have f1 := hX7.cell 1
      have f2 := hX7.cell 2
      have f3 := hX7.cell 3
      have f4 := hX7.cell 4
      have g0 := hX8.cell 0
      have g1 := hX8.cell 1
      have g2 := hX8.cell 2
      have g3 := hX8.cell 3
      have g4 := hX8.cell 4
      simp only [List.getElem?_cons_zero, List.getElem?_cons_succ] at f0 f1 f2 f3 f4 g0 g1 g2 g3 g4
      rw [hK] at f0 g0
      have HXA := Lib.hid f0
      have HXB := Lib.hid g0
      have HB08 := Lib.hid (HB07.out.trans (HB8.out.mono HB07.out.size))
      have HLX : Hid (X < w8.heap.size) := hX7.lt
      have HLY : Hid (Y < w8.heap.size) := hX8.lt
      clear hX7 hX8 ra ga ra' ga' hK hx HX7 HG7 e3
      go_wp2
      clear f0 f1 f2 f3 f4 g0 g1 g2 g3 g4
      go_loopw [8] (fun z wx => ∃ k : Nat, z = .int .i64 (k : Int) ∧ k ≤ K ∧ Hid (Below w8.heap.size w8 wx)) (fun z _ => K - (intOf z).toNat)
      case atStart => exact ⟨0, rfl, Nat.zero_le _, Below.refl _ _⟩
      case round =>
        obtain ⟨k, hz, hk, HD⟩ := hrel
        subst hz
        have f0 := (HD.out.cell (p := ⟨X, 0, none⟩) HLX.out).trans HXA.out
        have g0 := (HD.out.cell (p := ⟨Y, 0, none⟩) HLY.out).trans HXB.out
        by_cases hkn : k < K
        · have hi2k : (k : Int) < (K : Int) := by omega
          have hi0k : (0 : Int) ≤ (k : Int) := by omega
          have hwik : IntKind.i64.wrap (k : Int) = (k : Int) := by rw [IntKind.wrap_i64]; omega
          have hwjk : IntKind.i64.wrap ((k : Int) + 1) = (k : Int) + 1 := by rw [IntKind.wrap_i64]; omega
          have hkl : k < x.arcs.length := by rw [HK.out]; exact hkn
          obtain ⟨gb, ob, cb, c, he1, hG1, hr1⟩ := (HRA.out.up (Keep.below HD.out)).atN oneArc (LsF.up (fun _ _ => oneArc.up (Keep.below HD.out)) _ HGA.out) hkl
          injection he1 with he1 _ he1'
          subst he1 he1'
          have hl1 := oneArc.len hG1
          have hs1 : (Try.prog.info? 55).map (·.size) = some c.length := by rw [hl1]; exact sz_Arc
          have HO1 := Lib.hid (oneArc.one hG1)
          have hZ : Holds (wr.alloc (.cells #[.int .i64 0, .int .i64 0, .int .i64 0, .slice none 0 0, .slice none 0 0, .int .u64 0] 55)) wr.heap.size 55 [.int .i64 0, .int .i64 0, .int .i64 0, .slice none 0 0, .slice none 0 0, .int .u64 0] := Holds.new wr 55 #[.int .i64 0, .int .i64 0, .int .i64 0, .slice none 0 0, .slice none 0 0, .int .u64 0]
          have HZ := Lib.hid hZ
          have HR1 := Lib.hid hr1
          have HG1 := Lib.hid hG1
          clear hr1 hG1 hZ
          go_wp2_with (first | (refine wpList_load_mid rfl 55 _ rfl gb (ob + k * 6) rfl c _ HR1.out Try.underlying55 rfl hs1 ?_) | (refine wpList_storeB rfl 55 _ _ rfl wr.heap.size 0 c rfl rfl HZ.out (by rw [hl1]; exact Nat.le_of_ble_eq_true rfl) hs1 HO1.out ?_))
          refine Named.mk (fun w9 hW => ?_)
          have hB7 : Below wr.heap.size wr w9 := by rw [hW]; exact Below.far (Below.refl _ _) (Nat.le_refl _) _ _ _
          have hD7 := HZ.out.stored hW (by rw [hl1]; exact Nat.le_of_ble_eq_true rfl)
          rw [List.take_zero, List.nil_append, List.drop_of_length_le (by rw [hl1]; exact Nat.le_of_ble_eq_true rfl), List.append_nil] at hD7
          have hG9 := oneArc.up (Keep.below hB7) HG1.out
          have HB9 := Lib.hid hB7
          have hX9 := hD7
          clear hW hB7 HZ HR1 HG1 hl1 hs1 HO1 hD7
          obtain ⟨U, hU⟩ : ∃ X, wr.heap.size = X := ⟨_, rfl⟩
          rw [hU] at hX9 ⊢
          clear hU
          have HX9 := Lib.hid hX9
          have HG9 := Lib.hid hG9
          have HD9 := Lib.hid (HD.out.trans (HB9.out.mono HD.out.size))
          clear hX9 hG9 f0 g0
          have g0 := (HD9.out.cell (p := ⟨Y, 0, none⟩) HLY.out).trans HXB.out
          obtain ⟨gb, ob, cb, c, he1, hG1, hr1⟩ := (HRA'.out.up (Keep.below HD9.out)).atN oneArc (LsF.up (fun _ _ => oneArc.up (Keep.below HD9.out)) _ HGA'.out) hkl
          injection he1 with he1 _ he1'
          subst he1 he1'
          have hl1 := oneArc.len hG1
          have hs1 : (Try.prog.info? 55).map (·.size) = some c.length := by rw [hl1]; exact sz_Arc
          have HO1 := Lib.hid (oneArc.one hG1)
          have hZ : Holds (w9.alloc (.cells #[.int .i64 0, .int .i64 0, .int .i64 0, .slice none 0 0, .slice none 0 0, .int .u64 0] 55)) w9.heap.size 55 [.int .i64 0, .int .i64 0, .int .i64 0, .slice none 0 0, .slice none 0 0, .int .u64 0] := Holds.new w9 55 #[.int .i64 0, .int .i64 0, .int .i64 0, .slice none 0 0, .slice none 0 0, .int .u64 0]
          have HZ := Lib.hid hZ
          have HR1 := Lib.hid hr1
          have HG1 := Lib.hid hG1
          clear hr1 hG1 hZ
          go_wp2_with (first | (refine wpList_load_mid rfl 55 _ rfl gb (ob + k * 6) rfl c _ HR1.out Try.underlying55 rfl hs1 ?_) | (refine wpList_storeB rfl 55 _ _ rfl w9.heap.size 0 c rfl rfl HZ.out (by rw [hl1]; exact Nat.le_of_ble_eq_true rfl) hs1 HO1.out ?_))
          refine Named.mk (fun wA hW => ?_)
          have hB7 : Below w9.heap.size w9 wA := by rw [hW]; exact Below.far (Below.refl _ _) (Nat.le_refl _) _ _ _
          have hD7 := HZ.out.stored hW (by rw [hl1]; exact Nat.le_of_ble_eq_true rfl)
          rw [List.take_zero, List.nil_append, List.drop_of_length_le (by rw [hl1]; exact Nat.le_of_ble_eq_true rfl), List.append_nil] at hD7
          have hGA := oneArc.up (Keep.below hB7) HG1.out
          have HBA := Lib.hid hB7
          have hXA := hD7
          clear hW hB7 HZ HR1 HG1 hl1 hs1 HO1 hD7
          obtain ⟨V, hV⟩ : ∃ X, w9.heap.size = X := ⟨_, rfl⟩
          rw [hV] at hXA ⊢
          clear hV
          have hX9 := HX9.out.belowAll HBA.out
          have hG9 := oneArc.up (Keep.below HBA.out) HG9.out
          obtain ⟨r, hr⟩ : ∃ r, x.arcs[k] = r := ⟨_, rfl⟩
          rw [hr] at hG9 hGA
          have HAR := Lib.hid hr
          obtain ⟨vr, vw, rfl, pr, pw⟩ := hG9
          obtain ⟨vr', vw', rfl, pr', pw'⟩ := hGA
          have hlr : r.reads.length ≤ 2000000 ∧ r.writes.length ≤ 2000000 := by
            have := HS.out.reads i hil k (by rw [HXX.out]; exact hkl)
            simp only [HXX.out, HAR.out] at this
            exact this
          have HC1 := Lib.hid (sameFn pr pr' hlr.1)
          have HPW := Lib.hid pw
          have HPW' := Lib.hid pw'
          have HLW := Lib.hid hlr.2
          have HX9 := Lib.hid hX9
          have HXA2 := Lib.hid hXA
          have HDA := Lib.hid (HD9.out.trans (HBA.out.mono HD9.out.size))
          have f3 := hX9.cell 3
          have g3 := hXA.cell 3
          simp only [List.getElem?_cons_zero, List.getElem?_cons_succ] at f3 g3
          clear hX9 hXA pr pr' pw pw' hlr hr g0
          go_wp2_with (fail)
          refine HC1.out.mono ?_
          rintro e w10 ⟨rfl, hb10⟩
          have HC2 := Lib.hid (sameFn (HPW.out.up (Keep.below hb10)) (HPW'.out.up (Keep.below hb10)) HLW.out)
          have f4 := (HX9.out.belowAll hb10).cell 4
          have g4 := (HXA2.out.belowAll hb10).cell 4
          simp only [List.getElem?_cons_zero, List.getElem?_cons_succ] at f4 g4
          have HB10 := Lib.hid hb10
          clear f3 g3 hb10 HC1
          go_wp2_with (fail)
          refine HC2.out.mono ?_
          rintro e w11 ⟨rfl, hb11⟩
          have hb := HB10.out.trans (hb11.mono HB10.out.size)
          have hx := HX9.out.belowAll hb
          have hy := HXA2.out.belowAll hb
          have f0 := hx.cell 0
          have f1 := hx.cell 1
          have f2 := hx.cell 2
          have f5 := hx.cell 5
          have g0 := hy.cell 0
          have g1 := hy.cell 1
          have g2 := hy.cell 2
          have g5 := hy.cell 5
          simp only [List.getElem?_cons_zero, List.getElem?_cons_succ] at f0 f1 f2 f5 g0 g1 g2 g5
          have HEND := Lib.hid (HDA.out.trans (hb.mono HDA.out.size))
          clear f4 g4 hb11 hb hx hy HC2
          go_wp2
          refine ⟨⟨k + 1, by simp, by omega, HEND⟩, ?_⟩
          simp [intOf]
          omega
        · obtain rfl : k = K := by omega
          have HEND := Lib.hid (HB08.out.trans (HD.out.mono HB08.out.size))
          go_wp2
          refine ⟨⟨i + 1, by simp, by omega, HEND⟩, ?_⟩
          simp [intOf]
          omega
    · obtain rfl : i = M := by omega
      have HF : Hid (Yes w (.returned (.bool true)) wr) := ⟨rfl, HB0.out.trans (HB.out.mono HB0.out.size)⟩
      go_wp2
      go_ret
      exact HF.out
end Go.Proofs.Ytcedenoicmpjmaa
