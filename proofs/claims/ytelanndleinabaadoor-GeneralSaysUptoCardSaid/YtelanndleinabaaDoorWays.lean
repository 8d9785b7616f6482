/- The walk of ways. -/
import Derived.Test.YtelanndleinabaaDoorWayS
import Derived.Deep.CutRange
import Derived.Deep.RegionHeld3
import Derived.RegionDies
namespace Go.Proofs.YtelanndleinabaaDoor
open Go.RowKit
set_option linter.unusedVariables false

/-- What ways answers: the moves, and the sets behind it. -/
def WaysOut (β M nb mv B : Nat) (w : World) (va vs vf : Value) (r : Option (List Mv × List (List Int))) (e : Ending) (w' : World) : Prop :=
  match r with
  | some (out, rows') => ∃ v, e = .returned v ∧ w'.ownsRow B 53 4 v out.length (mvs out) ∧ (∀ m ∈ out, m.wf) ∧ ∃ vr' rvs', MkM β M nb w' va vs vf vr' rows' rvs' mv ∧ Kq w w' ∧ Below β w w'
  | none => e = .panicked manyChain ∧ Kq w w' ∧ Below β w w'

theorem setsFrom_lt (sts : List ASt) (x : AMv) : ∀ (fin : List Int) (i acc : Nat), acc < 18446744073709551616 → i + fin.length ≤ 64 → setsFrom sts x i fin acc < 18446744073709551616
  | [], i, acc, h, _ => h
  | f :: r, i, acc, h, hl => by
    rw [List.length_cons] at hl
    refine setsFrom_lt sts x r (i + 1) _ ?_ (by omega)
    split
    · exact Nat.or_lt_two_pow (n := 64) h (Nat.pow_lt_pow_right (by omega) (by omega))
    · exact h
theorem mvs_snoc (ms : List Mv) (m : Mv) : mvs (ms ++ [m]) = mvs ms ++ m.cells := by simp [mvs]
theorem Kq.grown_new {a w w' : World} {b : Option Nat} (h : Kq a w) (hg : w.grownBy w' b) (hb : ∀ g, b = some g → a.heap.size ≤ g) : Kq a w' :=
  ⟨Nat.le_trans h.size hg.size, fun g cs t h1 h2 h3 => (hg.block g (Array.getElem?_eq_some_iff.1 (h.row g cs t h1 h2 h3)).1 (fun e => by
    have := hb g e.symm
    have := (Array.getElem?_eq_some_iff.1 h3).1
    omega)).trans (h.row g cs t h1 h2 h3)⟩
theorem MkM.grown53 {β M nb mv base n : Nat} {w w' : World} {va vs vf vr u : Value} {rows : List (List Int)} {rvs ys : List Value} (h : MkM β M nb w va vs vf vr rows rvs mv) (ho : w.ownsRow base 53 4 u n ys) (hb : β ≤ base)
    (hg : w.grownBy w' u.ownBlock) : MkM β M nb w' va vs vf vr rows rvs mv := by
  have hβ : β ≤ w.heap.size := Nat.le_trans h.bt.1 (Nat.le_of_lt h.t.lt)
  have hB : Below β w w' := (Below.refl _ _).grown hg hβ (fun k e => Nat.le_trans hb (ho.lt k e).1)
  refine ⟨h.t.of_eq (hg.block _ h.t.lt (fun e => owns_ne_holds ho h.t (by decide) e.symm)), h.bt, h.num.of_eq (hg.block _ h.num.lt (fun e => ownBlock_ne_map ho h.num.obj e.symm)), h.row.kept hg (own_pair h.row ho (by decide)), fun i hi => ?_⟩
  obtain ⟨x, hx, ha⟩ := h.each i hi
  refine ⟨x, hx, ?_⟩
  rcases ha with ha | ⟨h1, h2⟩
  · exact .inl (ha.below hB)
  · exact .inr ⟨h1.kept hg (own_pair h1 ho (by decide)), h2⟩
theorem ways_end {β M nb mv i : Nat} {w W3 wF w9 : World} {va vs vf vr vrow u : Value} {rows : List (List Int)} {rvs ys : List Value} {row : List AMv} {o : Obj} (hβ : β ≤ w.heap.size) (K3 : Kq w W3) (KF : Kq W3 wF) (B3 : Below β w W3) (BF : Below β W3 wF)
    (MF : MkM β M nb wF va vs vf vr rows rvs mv) (O3 : OwnN w.heap.size W3 vrow row) (hUA : (wF.alloc o).ownsRow w.heap.size 53 4 u i ys) (g9 : (wF.alloc o).grownBy w9 u.ownBlock) : MkM β M nb w9 va vs vf vr rows rvs mv ∧ Kq w w9 ∧ Below β w w9 ∧ OwnN w.heap.size w9 vrow row := by
  have hs : w.heap.size ≤ wF.heap.size := (K3.trans KF).size
  have al : Below wF.heap.size wF (wF.alloc o) := (Below.refl _ _).alloc (Nat.le_refl _) _
  have hs' : w.heap.size ≤ (wF.alloc o).heap.size := Nat.le_trans hs al.size
  exact ⟨(MF.below al).grown53 hUA hβ g9, ((K3.trans KF).trans (Kq.of_below al)).grown_new g9 (fun g e => (hUA.lt g e).1), ((B3.trans BF).trans (al.mono (Nat.le_trans hβ hs))).grown g9 (Nat.le_trans hβ hs') (fun k e => Nat.le_trans hβ (hUA.lt k e).1),
    ((O3.kq KF).below al).grown hUA g9 (by decide) (by decide)⟩
theorem stateRes_le {rows rows' : List (List Int)} {l : List Int} {i : Nat} (h : stateRes rows l = some (i, rows')) : i ≤ rows.length := by
  unfold stateRes at h
  split at h
  · next hm =>
    injection h with h
    injection h with h1 h2
    rw [← h1]
    exact Nat.le_of_lt (List.idxOf_lt_length_of_mem hm)
  · split at h
    · injection h with h
      injection h with h1 h2
      omega
    · cases h
attribute [local irreducible] wpStill
set_option maxHeartbeats 4000000 in
set_option maxRecDepth 100000 in
theorem waysFn (β M nb mv : Nat) (w : World) (va vs vf vr : Value) (sts : List ASt) (fin : List Int) (rows : List (List Int)) (rvs : List Value) (v : Value) (l : List Int) (hM : MkM β M nb w va vs vf vr rows rvs mv)
    (hS : RowS β w vs sts) (hF : w.ownsRow β 3 1 vf fin.length (ints fin)) (hfin : ∀ f ∈ fin, 0 ≤ f ∧ f < (sts.length : Int)) (hfl : fin.length ≤ 60) (hN : sts.length ≤ 100) (hto : ∀ s : Nat, ∀ m ∈ movesOf sts (s : Int), SetN sts.length m.to)
    (hv : AnyI β w v l) (hl : SetN sts.length l) :
    Calls Tryd.prog 33 #[.pointer (some ⟨M, 0, none⟩), v] w fun e w' => WaysOut β M nb mv w.heap.size w va vs vf (waysRes sts fin rows l) e w' := by
  have hβ : β ≤ w.heap.size := Nat.le_trans hM.bt.1 (Nat.le_of_lt hM.t.lt)
  have hMlt := hM.t.lt
  have HT := hM.t
  have hr := hv.read hβ
  obtain ⟨N, hNe⟩ : ∃ N, sts.length = N := ⟨_, rfl⟩
  obtain ⟨a1, cap1, rfl, hc1, hm1⟩ := hS.form
  obtain ⟨a2, cap2, rfl, hc2, hm2⟩ := hr.form
  obtain ⟨n, hn⟩ : ∃ n, l.length = n := ⟨_, rfl⟩
  rw [hNe] at hc1 hS hN hfin hto hl hM HT ⊢
  rw [hn] at hc2 hr ⊢
  obtain ⟨R, hR⟩ : ∃ R, waysRes sts fin rows l = R := ⟨_, rfl⟩
  obtain ⟨R1, hR1⟩ : ∃ R1, waysRow sts l [⟨0, 0, []⟩] = R1 := ⟨_, rfl⟩
  have hRR : R1.bind (fun r => outs sts fin r rows []) = R := by rw [← hR, ← hR1]; rfl
  rw [hR]
  have H1 : Hid (waysRow sts (l.drop 0) [⟨0, 0, []⟩] = R1) := hR1
  have HRR := Lib.hid hRR
  have HM := Lib.hid hM
  have HS := Lib.hid hS
  have HF := Lib.hid hF
  have HFI := Lib.hid hfin
  have HTO := Lib.hid hto
  have HL := Lib.hid hl
  have HRD := Lib.hid hr
  have HNE := Lib.hid hNe
  have HN := Lib.hid hn
  have hn100 : n ≤ 100 := by have := hl.len; omega
  have hB0 : Below w.heap.size w (w.alloc (.cells #[.int .u64 0, .int .u64 0, .slice none 0 0] 89)) := (Below.refl _ _).alloc (Nat.le_refl _) _
  have HO : Hid (OwnN w.heap.size (w.alloc (.cells #[.int .u64 0, .int .u64 0, .slice none 0 0] 89)) (.slice (some ⟨w.heap.size, 0, none⟩) 1 1) [⟨0, 0, []⟩]) := OwnN.one w
  have HSN : Hid (∀ x ∈ [(⟨0, 0, []⟩ : AMv)], SetN N x.to) := fun x hx => by rw [List.mem_singleton] at hx; subst hx; exact SetN.nil N
  clear hM hS hF hfin hto hv hl hr hNe hn hR hR1 hRR HT
  go_enter Tryd.func33, Tryd.ntmps33
  go_wp2
  go_loopw [5, 21] (fun u y wr => ∃ (k : Nat) (row : List AMv), y = .int .i64 (k : Int) ∧ k ≤ n ∧ row.length ≤ 4096 ∧ Hid (waysRow sts (l.drop k) row = R1) ∧ Hid (OwnN w.heap.size wr u row) ∧ Hid (∀ x ∈ row, SetN N x.to) ∧ Below w.heap.size w wr) (fun _ y _ => (n + 10 - intOf y).toNat)
  case atStart => exact ⟨0, [⟨0, 0, []⟩], rfl, Nat.zero_le _, by simp, H1, HO, HSN, hB0⟩
  case round =>
    clear H1 HO HSN hB0
    obtain ⟨k, row, rfl, hk, hr96, H1, HO, HSN, hB⟩ := hrel
    obtain ⟨W1, rfl⟩ : ∃ W, W = wr := ⟨wr, rfl⟩
    by_cases hkn : k < n
    · have hkn' : (k : Int) < (n : Int) := by omega
      obtain ⟨s, hsq⟩ : ∃ s, l[k]? = some s := ⟨_, List.getElem?_eq_getElem (by rw [HN.out]; exact hkn)⟩
      obtain ⟨s0, s1⟩ := HL.out.2 s (List.mem_of_getElem? hsq)
      obtain ⟨g, o, rfl, hg, hcell⟩ := (HRD.out.below hB).at (k := k) (by rw [HN.out]; exact hkn)
      rw [(List.getElem?_eq_some_iff.1 hsq).2] at hcell
      obtain ⟨S, hSe⟩ : ∃ S : Nat, s = (S : Int) := ⟨s.toNat, by omega⟩
      have hdr := drop_at hsq
      rw [hSe] at hdr hcell s1 s0
      have hSN : S < N := by omega
      obtain ⟨gs, os, us, rfl, hgs, _, hcu0, hru⟩ := HS.out.at (k := S) (by rw [HNE.out]; exact hSN)
      have hmvs : movesOf sts (S : Int) = (sts[S]'(by rw [HNE.out]; exact hSN)).2 := by
        unfold movesOf
        rw [Int.toNat_natCast, List.getD_eq_getElem?_getD, List.getElem?_eq_getElem (by rw [HNE.out]; exact hSN), Option.getD_some]
      rw [← hmvs] at hru
      have hcu := (cell_below hB (Nat.lt_of_lt_of_le hgs hβ) _).trans hcu0
      have hru1 := hru.below (hB.mono hβ)
      have HYS := Lib.hid (HTO.out S)
      have hH1 : (stepX (movesOf sts (S : Int)) row []).bind (waysRow sts (l.drop (k + 1))) = R1 := by
        rw [← H1.out, hdr]; rfl
      have hT1 := HM.out.t.belowAll hB
      have c1 := hT1.cell 1
      simp only [List.getElem?_cons_zero, List.getElem?_cons_succ] at c1
      generalize movesOf sts (S : Int) = ys at HYS hH1 hru1
      obtain ⟨a4, cap4, rfl, hc4, hm4⟩ := hru1.form
      obtain ⟨p, hp⟩ : ∃ p, ys.length = p := ⟨_, rfl⟩
      rw [hp] at hc4 hcu hru1
      obtain ⟨a3, cap3, rfl, hc3, hm3⟩ := HO.out.form
      obtain ⟨q, hq⟩ : ∃ q, row.length = q := ⟨_, rfl⟩
      have HROW := Lib.hid HO.out.rowA
      rw [hq] at hc3 HO HROW hr96 ⊢
      have HPL := Lib.hid hp
      have HQ := Lib.hid hq
      have HYR := Lib.hid hru1
      have hT1' := Lib.hid hT1
      have H2 : Hid ((stepX ys (row.drop 0) []).bind (waysRow sts (l.drop (k + 1))) = R1) := hH1
      clear hcu0 hru hmvs hsq hdr hp hq hru1 hH1 hT1 s1
      go_wp2
      go_loopw [8, 27] (fun u y w2 => ∃ (j : Nat) (nx : List AMv), y = .int .i64 (j : Int) ∧ j ≤ q ∧ nx.length ≤ 4096 ∧ Hid ((stepX ys (row.drop j) nx).bind (waysRow sts (l.drop (k + 1))) = R1) ∧ Hid (OwnN W1.heap.size w2 u nx) ∧ Hid (∀ x ∈ nx, SetN N x.to) ∧ Below W1.heap.size W1 w2) (fun _ y _ => (q + 10 - intOf y).toNat)
      case atStart => exact ⟨0, [], rfl, Nat.zero_le _, by simp, H2, OwnN.nil _ _, (fun x hx => by cases hx), Below.refl _ _⟩
      case round =>
        clear H1 H2
        obtain ⟨j, nx, rfl, hj, hn96, H2, HX, HXN, hB2⟩ := hrel
        obtain ⟨W2, rfl⟩ : ∃ W, W = wr := ⟨wr, rfl⟩
        by_cases hjq : j < q
        · have hjq' : (j : Int) < (q : Int) := by omega
          obtain ⟨x, hxq⟩ : ∃ x, row[j]? = some x := ⟨_, List.getElem?_eq_getElem (by rw [HQ.out]; exact hjq)⟩
          obtain ⟨g3, o3, ux, rfl, hg3, x0, x1, x2, hxu, q1, q2⟩ := (HROW.out.below hB2).at (k := j) (by rw [HQ.out]; exact hjq)
          rw [(List.getElem?_eq_some_iff.1 hxq).2] at x0 x1 hxu q1 q2
          have hxs := HSN.out x (List.mem_of_getElem? hxq)
          have hdx := drop_at hxq
          obtain ⟨xy, xn, xt⟩ := x
          simp only at x0 x1 hxu q1 q2 hxs
          have hH2 : ((stepY ⟨xy, xn, xt⟩ ys nx).bind (stepX ys (row.drop (j + 1)))).bind (waysRow sts (l.drop (k + 1))) = R1 := by
            rw [← H2.out, hdx]; rfl
          obtain ⟨a5, cap5, rfl, _, _⟩ := hxu.form
          obtain ⟨p5, hp5⟩ : ∃ p5, xt.length = p5 := ⟨_, rfl⟩
          rw [hp5] at x2 hxu
          obtain ⟨n8, hn8⟩ : ∃ n8, nx.length = n8 := ⟨_, rfl⟩
          obtain ⟨a8, cap8, rfl, hc8, hm8⟩ := HX.out.form
          rw [hn8] at HX hc8 ⊢
          have HP5 := Lib.hid hp5
          have HXU := Lib.hid hxu
          have HXS := Lib.hid hxs
          have HN8 := Lib.hid hn8
          have hBa : Below W1.heap.size W1 (W2.alloc (.cells #[.int .u64 (xy : Int), .int .u64 (xn : Int), .slice a5 p5 cap5] 89)) := hB2.alloc hB2.size _
          have hAl : Below W2.heap.size W2 (W2.alloc (.cells #[.int .u64 (xy : Int), .int .u64 (xn : Int), .slice a5 p5 cap5] 89)) := (Below.refl _ _).alloc (Nat.le_refl _) _
          have hHx := Lib.hid (Holds.new W2 89 #[.int .u64 (xy : Int), .int .u64 (xn : Int), .slice a5 p5 cap5])
          have hne8 : (Value.slice a8 n8 cap8).ownBlock ≠ some W2.heap.size := fun e => by
            obtain ⟨ps, _, ho, _⟩ := HX.out
            have := (ho.lt _ e).2
            omega
          have HNE8 := Lib.hid hne8
          have HX3 := Lib.hid (HX.out.below hAl)
          have d1 := hT1'.out.below (hBa) hT1'.out.lt
          have d2 := d1.cell 1
          simp only [List.getElem?_cons_zero, List.getElem?_cons_succ] at d2
          have d3 := (cell_below (hBa) (Nat.lt_of_lt_of_le hgs (Nat.le_trans hβ hB.size)) _).trans hcu
          have H3 : Hid (((stepY ⟨xy, xn, xt⟩ (ys.drop 0) nx).bind (stepX ys (row.drop (j + 1)))).bind (waysRow sts (l.drop (k + 1))) = R1) := hH2
          clear hdx hxq hxu hxs hH2 hp5 hne8 d1 hn8 H2 HX hcell
          go_wp2
          go_loopw [8, 41] (fun u y w5 => ∃ (i : Nat) (nx : List AMv), y = .int .i64 (i : Int) ∧ i ≤ p ∧ nx.length ≤ 4096 ∧ Hid (((stepY ⟨xy, xn, xt⟩ (ys.drop i) nx).bind (stepX ys (row.drop (j + 1)))).bind (waysRow sts (l.drop (k + 1))) = R1) ∧ Hid (OwnN W1.heap.size w5 u nx) ∧ Hid (∀ x ∈ nx, SetN N x.to) ∧ Below W1.heap.size W1 w5 ∧ Hid (Holds w5 W2.heap.size 89 [.int .u64 (xy : Int), .int .u64 (xn : Int), .slice a5 p5 cap5]) ∧ Hid (u.ownBlock ≠ some W2.heap.size)) (fun _ y _ => (p + 10 - intOf y).toNat)
          case atStart => exact ⟨0, nx, rfl, Nat.zero_le _, hn96, H3, HX3, HXN, hBa, hHx, HNE8⟩
          case round =>
            clear H3 HX3 HXN hn96 HN8
            clear nx
            obtain ⟨i, nx, rfl, hi, hn96, H3, HX, HXN, hB5, HH, HNE8⟩ := hrel
            by_cases hip : i < p
            · have hip' : (i : Int) < (p : Int) := by omega
              obtain ⟨W3, rfl⟩ : ∃ W, W = wr := ⟨wr, rfl⟩
              obtain ⟨y, hyq⟩ : ∃ y, ys[i]? = some y := ⟨_, List.getElem?_eq_getElem (by rw [HPL.out]; exact hip)⟩
              have hβ1 : β ≤ W1.heap.size := Nat.le_trans hβ hB.size
              obtain ⟨g6, o6, uy, rfl, hg6, y0, y1, y2, hyu, q3, q4⟩ := (HYR.out.below (hB5.mono hβ1)).at (k := i) (by rw [HPL.out]; exact hip)
              rw [(List.getElem?_eq_some_iff.1 hyq).2] at y0 y1 hyu q3 q4
              have hys := HYS.out y (List.mem_of_getElem? hyq)
              have hdy := drop_at hyq
              obtain ⟨yy, yn, yt⟩ := y
              simp only at y0 y1 hyu q3 q4 hys
              have hst : stepY ⟨xy, xn, xt⟩ (ys.drop i) nx = if (addA nx ⟨xy ||| yy, xn ||| yn, joinI xt yt⟩).length ≤ 4096 then stepY ⟨xy, xn, xt⟩ (ys.drop (i + 1)) (addA nx ⟨xy ||| yy, xn ||| yn, joinI xt yt⟩) else none := by
                rw [hdy]; rfl
              obtain ⟨a6, cap6, rfl, _, _⟩ := hyu.form
              obtain ⟨p6, hp6⟩ : ∃ p6, yt.length = p6 := ⟨_, rfl⟩
              rw [hp6] at y2 hyu
              have hW : Below W3.heap.size W3 (W3.alloc (.cells #[.int .u64 (yy : Int), .int .u64 (yn : Int), .slice a6 p6 cap6] 89)) := (Below.refl _ _).alloc (Nat.le_refl _) _
              have hHy := Holds.new W3 89 #[.int .u64 (yy : Int), .int .u64 (yn : Int), .slice a6 p6 cap6]
              have hHx := HH.out.belowAll hW
              have hbx : W2.heap.size < W3.heap.size := HH.out.lt
              have hB53 : Below W1.heap.size W2 W3 := ⟨hB5.os.trans hB2.os.symm, hB5.tape.trans hB2.tape.symm, hB5.output.trans hB2.output.symm, by omega, fun k hk => (hB5.block k hk).trans (hB2.block k hk).symm⟩
              have hxr := (((HXU.out.below hB53).mono hB5.size).below hW).mono hW.size
              have hyr := (((hyu.mono (Nat.le_trans hβ1 hB5.size))).below hW).mono hW.size
              have HJ : Hid (∀ w', Below (W3.alloc (.cells #[.int .u64 (yy : Int), .int .u64 (yn : Int), .slice a6 p6 cap6] 89)).heap.size (W3.alloc (.cells #[.int .u64 (yy : Int), .int .u64 (yn : Int), .slice a6 p6 cap6] 89)) w' → Calls Tryd.prog 47 #[.slice a5 p5 cap5, .slice a6 p6 cap6] w' fun e w'' => ∃ v, e = .returned v ∧ w''.ownsRow w'.heap.size 3 1 v (joinI xt yt).length (ints (joinI xt yt)) ∧ Below w'.heap.size w' w'') :=
                fun w' hw' => joinFn (.slice a5 p5 cap5) (.slice a6 p6 cap6) xt yt w' ((hxr.below hw').mono hw'.size) ((hyr.below hw').mono hw'.size) (by have := HXS.out.len; have := hys.len; omega)
              have x0 := hHx.cell 0
              have x1 := hHx.cell 1
              have x2 := hHx.cell 2
              have z0 := hHy.cell 0
              have z1 := hHy.cell 1
              have z2 := hHy.cell 2
              simp only [List.getElem?_cons_zero, List.getElem?_cons_succ] at x0 x1 x2 z0 z1 z2
              have hJN := HXS.out.join hys
              have hor1 := bits_or_u64_nat xy yy q1 q3
              have hor2 := bits_or_u64_nat xn yn q2 q4
              have hlt1 : xy ||| yy < 18446744073709551616 := Nat.or_lt_two_pow (n := 64) q1 q3
              have hlt2 : xn ||| yn < 18446744073709551616 := Nat.or_lt_two_pow (n := 64) q2 q4
              generalize xy ||| yy = zy at hor1 hlt1 hst
              generalize xn ||| yn = zn at hor2 hlt2 hst
              generalize joinI xt yt = zt at HJ hJN hst
              have hand := bits_and_u64_nat zy zn hlt1 hlt2
              have hadd : addA nx ⟨zy, zn, zt⟩ = if (zy &&& zn == 0) && !(nx.any fun o => sameB o ⟨zy, zn, zt⟩) then nx ++ [⟨zy, zn, zt⟩] else nx := rfl
              generalize zy &&& zn = c at hand hadd
              have HST := Lib.hid hst
              have HADD := Lib.hid hadd
              have HJN := Lib.hid (hJN : SetN N zt)
              have HZB : Hid (∀ x ∈ zt, -9223372036854775808 ≤ x ∧ x ≤ 9223372036854775807) := fun x hx => by have := hJN.2 x hx; omega
              have HW := Lib.hid hW
              have HHx := Lib.hid hHx
              clear hst hadd hJN hyu hxr hyr hys hdy hyq hHy hHx hW hp6
              go_wp2
              have hws : W3.heap.size < (W3.alloc (.cells #[.int .u64 (yy : Int), .int .u64 (yn : Int), .slice a6 p6 cap6] 89)).heap.size := by simp
              generalize hW4 : W3.alloc (.cells #[.int .u64 (yy : Int), .int .u64 (yn : Int), .slice a6 p6 cap6] 89) = W4 at *
              obtain ⟨bx, hbxe⟩ : ∃ bx, W2.heap.size = bx := ⟨_, rfl⟩
              obtain ⟨bY, hbye⟩ : ∃ bY, W3.heap.size = bY := ⟨_, rfl⟩
              rw [hbxe] at x0 x1 x2
              rw [hbye] at z0 z1 z2
              simp only [hbxe, hbye]
              have HBX := Lib.hid hbxe
              have HBY := Lib.hid hbye
              clear hbxe hbye hW4 y0 y1 y2
              have hK : Hid (∀ w', Below W4.heap.size W4 w' → (fun w' : World => Below W4.heap.size W4 w' ∧ w'.cell? ⟨bx, 0, none⟩ = some (.int .u64 (xy : Int)) ∧ w'.cell? ⟨bx, 1, none⟩ = some (.int .u64 (xn : Int)) ∧ w'.cell? ⟨bx, 2, none⟩ = some (.slice a5 p5 cap5) ∧ w'.cell? ⟨bY, 0, none⟩ = some (.int .u64 (yy : Int)) ∧ w'.cell? ⟨bY, 1, none⟩ = some (.int .u64 (yn : Int)) ∧ w'.cell? ⟨bY, 2, none⟩ = some (.slice a6 p6 cap6)) w') := fun w' hw' =>
                ⟨hw', (cell_below hw' (by have := HHx.out.lt; rw [HBX.out] at this; exact this) _).trans x0, (cell_below hw' (by have := HHx.out.lt; rw [HBX.out] at this; exact this) _).trans x1, (cell_below hw' (by have := HHx.out.lt; rw [HBX.out] at this; exact this) _).trans x2,
                  (cell_below hw' (by have := hws; rw [HBY.out] at this; exact this) _).trans z0, (cell_below hw' (by have := hws; rw [HBY.out] at this; exact this) _).trans z1, (cell_below hw' (by have := hws; rw [HBY.out] at this; exact this) _).trans z2⟩
              have hK1 : Hid (∀ w' o, (fun w' : World => Below W4.heap.size W4 w' ∧ w'.cell? ⟨bx, 0, none⟩ = some (.int .u64 (xy : Int)) ∧ w'.cell? ⟨bx, 1, none⟩ = some (.int .u64 (xn : Int)) ∧ w'.cell? ⟨bx, 2, none⟩ = some (.slice a5 p5 cap5) ∧ w'.cell? ⟨bY, 0, none⟩ = some (.int .u64 (yy : Int)) ∧ w'.cell? ⟨bY, 1, none⟩ = some (.int .u64 (yn : Int)) ∧ w'.cell? ⟨bY, 2, none⟩ = some (.slice a6 p6 cap6)) w' → (fun w' : World => Below W4.heap.size W4 w' ∧ w'.cell? ⟨bx, 0, none⟩ = some (.int .u64 (xy : Int)) ∧ w'.cell? ⟨bx, 1, none⟩ = some (.int .u64 (xn : Int)) ∧ w'.cell? ⟨bx, 2, none⟩ = some (.slice a5 p5 cap5) ∧ w'.cell? ⟨bY, 0, none⟩ = some (.int .u64 (yy : Int)) ∧ w'.cell? ⟨bY, 1, none⟩ = some (.int .u64 (yn : Int)) ∧ w'.cell? ⟨bY, 2, none⟩ = some (.slice a6 p6 cap6)) (w'.alloc o)) := fun w' o h => hK.out _ (h.1.alloc h.1.size _)
              have hK2 : Hid (∀ w' w6, (fun w' : World => Below W4.heap.size W4 w' ∧ w'.cell? ⟨bx, 0, none⟩ = some (.int .u64 (xy : Int)) ∧ w'.cell? ⟨bx, 1, none⟩ = some (.int .u64 (xn : Int)) ∧ w'.cell? ⟨bx, 2, none⟩ = some (.slice a5 p5 cap5) ∧ w'.cell? ⟨bY, 0, none⟩ = some (.int .u64 (yy : Int)) ∧ w'.cell? ⟨bY, 1, none⟩ = some (.int .u64 (yn : Int)) ∧ w'.cell? ⟨bY, 2, none⟩ = some (.slice a6 p6 cap6)) w' → Below w'.heap.size w' w6 → (fun w' : World => Below W4.heap.size W4 w' ∧ w'.cell? ⟨bx, 0, none⟩ = some (.int .u64 (xy : Int)) ∧ w'.cell? ⟨bx, 1, none⟩ = some (.int .u64 (xn : Int)) ∧ w'.cell? ⟨bx, 2, none⟩ = some (.slice a5 p5 cap5) ∧ w'.cell? ⟨bY, 0, none⟩ = some (.int .u64 (yy : Int)) ∧ w'.cell? ⟨bY, 1, none⟩ = some (.int .u64 (yn : Int)) ∧ w'.cell? ⟨bY, 2, none⟩ = some (.slice a6 p6 cap6)) w6) := fun w' w6 h h' => hK.out _ (h.1.trans (h'.mono h.1.size))
              have hK3 : Hid (∀ w' b i u, (fun w' : World => Below W4.heap.size W4 w' ∧ w'.cell? ⟨bx, 0, none⟩ = some (.int .u64 (xy : Int)) ∧ w'.cell? ⟨bx, 1, none⟩ = some (.int .u64 (xn : Int)) ∧ w'.cell? ⟨bx, 2, none⟩ = some (.slice a5 p5 cap5) ∧ w'.cell? ⟨bY, 0, none⟩ = some (.int .u64 (yy : Int)) ∧ w'.cell? ⟨bY, 1, none⟩ = some (.int .u64 (yn : Int)) ∧ w'.cell? ⟨bY, 2, none⟩ = some (.slice a6 p6 cap6)) w' → W4.heap.size ≤ b → (fun w' : World => Below W4.heap.size W4 w' ∧ w'.cell? ⟨bx, 0, none⟩ = some (.int .u64 (xy : Int)) ∧ w'.cell? ⟨bx, 1, none⟩ = some (.int .u64 (xn : Int)) ∧ w'.cell? ⟨bx, 2, none⟩ = some (.slice a5 p5 cap5) ∧ w'.cell? ⟨bY, 0, none⟩ = some (.int .u64 (yy : Int)) ∧ w'.cell? ⟨bY, 1, none⟩ = some (.int .u64 (yn : Int)) ∧ w'.cell? ⟨bY, 2, none⟩ = some (.slice a6 p6 cap6)) (w'.setCell ⟨b, i, none⟩ u)) := fun w' b i u h hb => hK.out _ (h.1.setCell hb _)
              go_cut [13, 41] from 41 to 89 (fun z i5 wx => i5 = .int .i64 (i : Int) ∧ ∃ bz zv, z = .pointer (some ⟨bz, 0, none⟩) ∧ W4.heap.size ≤ bz ∧ Hid (Holds wx bz 89 [.int .u64 (zy : Int), .int .u64 (zn : Int), zv]) ∧ Hid (OwnI W4.heap.size wx zv zt) ∧ Hid (Below W4.heap.size W4 wx))
              case first =>
                go_region_held3 (fun w' : World => Below W4.heap.size W4 w' ∧ w'.cell? ⟨bx, 0, none⟩ = some (.int .u64 (xy : Int)) ∧ w'.cell? ⟨bx, 1, none⟩ = some (.int .u64 (xn : Int)) ∧ w'.cell? ⟨bx, 2, none⟩ = some (.slice a5 p5 cap5) ∧ w'.cell? ⟨bY, 0, none⟩ = some (.int .u64 (yy : Int)) ∧ w'.cell? ⟨bY, 1, none⟩ = some (.int .u64 (yn : Int)) ∧ w'.cell? ⟨bY, 2, none⟩ = some (.slice a6 p6 cap6)) (first | exact hK.out _ (Below.refl _ _).drew | exact hK1.out _ _ (by assumption) | exact hS6.out | exact hK1.out _ _ hS6.out | exact hK3.out _ _ _ _ (hK3.out _ _ _ _ (hK3.out _ _ _ _ hS6.out (Nat.le_refl _)) (Nat.le_refl _)) (Nat.le_refl _) | exact hK3.out _ _ _ _ (hK3.out _ _ _ _ (hK3.out _ _ _ _ (hK1.out _ _ hS6.out) hz6) hz6) hz6) (first | (go_at_call 47; refine (HJ.out _ (And.left (by assumption))).mono ?_; rintro e w6 ⟨zv, rfl, hzo, hb6⟩; obtain ⟨a7, cap7, rfl, hc7, hm7⟩ := owns_form hzo; have hS6 := Lib.hid (hK2.out _ _ (by assumption) hb6); have hz6 := hS6.out.1.size; have HZO := Lib.hid hzo; clear hzo; try (have hz7 : Holds w6 W4.heap.size 89 [.int .u64 0, .int .u64 0, .slice none 0 0] := Holds.belowAll (Holds.new W4.drew 89 #[.int .u64 0, .int .u64 0, .slice none 0 0]) hb6; have k0 := hz7.cell 0; have k1 := hz7.cell 1; have k2 := hz7.cell 2; have k3 := hz7.free 0; have k4 := hz7.free 1; have k5 := hz7.free 2; simp only [List.getElem?_cons_zero, List.getElem?_cons_succ] at k0 k1 k2)))
                · go_wp2_with (fail)
                  go_meet
                  case rel => exact ⟨rfl, w6.heap.size, .slice a7 zt.length cap7, rfl, hz6, Holds.new w6 89 #[.int .u64 (zy : Int), .int .u64 (zn : Int), .slice a7 zt.length cap7], OwnI.below (w := w6) ⟨HZO.out, HZB.out⟩ ((Below.refl _ _).alloc (Nat.le_refl _) _), hS6.out.1.alloc hz6 _⟩
                · go_wp2_with (fail)
                  go_meet
                  case rel => exact ⟨rfl, W4.heap.size, .slice a7 zt.length cap7, rfl, Nat.le_refl _, ((hz7.put 0 _).put 1 _).put 2 _, ⟨own_mono (own_put (own_put (own_put HZO.out hz7 (by decide)) (hz7.put 0 _) (by decide)) ((hz7.put 0 _).put 1 _) (by decide)) (by simp), HZB.out⟩, ((hS6.out.1.setCell (Nat.le_refl _) _).setCell (Nat.le_refl _) _).setCell (Nat.le_refl _) _⟩
              case rest =>
                obtain ⟨rfl, bz, zv, rfl, hbz, HZ, HV, HB⟩ := hcut
                have hBc : Below W1.heap.size W1 wc := (hB5.trans (HW.out.mono hB5.size)).trans (HB.out.mono (Nat.le_trans hB5.size HW.out.size))
                have HXc := Lib.hid ((HX.out.below HW.out).below (HB.out))
                have HHc := Lib.hid (HHx.out.belowAll HB.out)
                obtain ⟨a9, cap9, rfl, hc9, hm9⟩ := HX.out.form
                have e0 := HZ.out.cell 0
                have e1 := HZ.out.cell 1
                simp only [List.getElem?_cons_zero, List.getElem?_cons_succ] at e0 e1
                by_cases hc : c = 0
                · subst hc
                  obtain ⟨az, capz, rfl, hcz, hmz⟩ := owns_form HV.out.1
                  obtain ⟨ps, hps, hown, hall⟩ := HXc.out
                  have hpl : ps.length = nx.length := by rw [← hps, List.length_map]
                  have HWP := Lib.hid (ways_pred (z := (⟨zy, zn, zt⟩, .slice az zt.length capz)) (Row.of_owns hown) (fun p hp => (hall p hp).1.read) HV.out.read HZ.out)
                  rw [hps] at HWP
                  have HOWN := Lib.hid hown
                  have HALL := Lib.hid hall
                  have HPS := Lib.hid hps
                  have HPLN := Lib.hid hpl
                  clear hown hall hps hpl
                  have hcc : (((0 : Nat) : Int) == 0) = true := by simp
                  cases hany : nx.any fun o => sameB o ⟨zy, zn, zt⟩ with
                  | true =>
                    have hsame : addA nx ⟨zy, zn, zt⟩ = nx := by rw [HADD.out, hany]; simp
                    have H3' : Hid (((stepY ⟨xy, xn, xt⟩ (ys.drop (i + 1)) nx).bind (stepX ys (row.drop (j + 1)))).bind (waysRow sts (l.drop (k + 1))) = R1) := by
                      have := H3.out
                      rw [HST.out, hsame, if_pos hn96] at this
                      exact this
                    go_wp2_with (go_at_call 48; refine (HWP.out).mono ?_; rintro e w7 ⟨rfl, hb7⟩; rw [hany])
                    have HX7 := Lib.hid (HXc.out.below hb7)
                    have HH7 := Lib.hid (HHc.out.belowAll hb7)
                    have hB7 := hBc.trans (hb7.mono hBc.size)
                    have hbx' := HBX.out
                    subst hbx'
                    go_roundw
                    case rel => exact ⟨i + 1, nx, rfl, by omega, hn96, H3', HX7, HXN, hB7, HH7, HNE8⟩
                    case measure => simp [intOf]; omega
                  | false =>
                    obtain ⟨i0, hi0, hz0, hz1, hz2⟩ := info_parts Tryd.info89
                    go_wp2_with (first | (go_at_call 48; refine (HWP.out).mono ?_; rintro e w7 ⟨rfl, hb7⟩; rw [hany]; have hA7 := hb7.alloc hb7.size (.cells #[.int .u64 (zy : Int), .int .u64 (zn : Int), .slice az zt.length capz] 89); have hown8 := (Fr.of_below hA7 (fun _ => False)).owns HOWN.out (fun _ _ h => h); have k0 := (HZ.out.belowAll hb7).cell 0; have k1 := (HZ.out.belowAll hb7).cell 1; have k2 := (HZ.out.belowAll hb7).cell 2; simp only [List.getElem?_cons_zero, List.getElem?_cons_succ] at k0 k1 k2) | (at_builtin; refine wpList_append_own_at _ rfl (.tmp 80) (.tmp 82) _ rfl W1.heap.size 89 i0 _ 3 40 Tryd.underlying75 hi0 hz0 hz1 hz2 rfl (by omega) (.slice a9 nx.length cap9) ps.length (aps ps) rfl hown8 ⟨w7.heap.size, 0, none⟩ 1 1 [.int .u64 (zy : Int), .int .u64 (zn : Int), .slice az zt.length capz] rfl rfl ?c1 ?c2 ?c3 ?c4 ?c5 ?_))
                    case c1 => exact cells_of_new _ _ rfl [.int .u64 (zy : Int), .int .u64 (zn : Int), .slice az zt.length capz] 89
                    case c2 => simp [Value.oneCell']
                    case c3 => rw [HPLN.out]; unfold maxLen; omega
                    case c4 => rw [HPLN.out]; omega
                    case c5 => exact Nat.le_trans hBc.size (Nat.le_trans hb7.size (by simp))
                    intro u' w8 hS8 g8 _ hor
                    obtain ⟨k7, hk7⟩ : ∃ k7, ps.length + 1 = k7 := ⟨_, rfl⟩
                    have hz8 : OwnI W1.heap.size (w7.alloc (.cells #[.int .u64 (zy : Int), .int .u64 (zn : Int), .slice az zt.length capz] 89)) (.slice az zt.length capz) zt := (HV.out.mono (Nat.le_trans hB5.size HW.out.size)).below hA7
                    have HX8 : OwnN W1.heap.size w8 u' (nx ++ [⟨zy, zn, zt⟩]) := by
                      have := OwnN.push (z := (⟨zy, zn, zt⟩, .slice az zt.length capz)) hown8 (fun p hp => ⟨(HALL.out p hp).1.below hA7, (HALL.out p hp).2⟩) ⟨hz8, hlt1, hlt2⟩ g8 hS8
                      rw [HPS.out] at this
                      exact this
                    have hHA := HHc.out.belowAll hA7
                    have HH8 := Lib.hid (hHA.of_eq (g8.block _ hHA.lt (fun e => HNE8.out e.symm)))
                    have hx7 := (HHc.out.belowAll hb7).lt
                    have HNE9 : Hid (u'.ownBlock ≠ some W2.heap.size) := by
                      intro e
                      rcases hor with h | h
                      · exact HNE8.out (h.symm.trans e)
                      · rw [h] at e
                        have := Option.some.inj e
                        omega
                    have hB8 : Below W1.heap.size W1 w8 := (hBc.trans (hA7.mono hBc.size)).grown g8 (Nat.le_trans hBc.size (Nat.le_trans hb7.size (by simp))) (fun k e => (hown8.lt k e).1)
                    have HXN8 : Hid (∀ x ∈ nx ++ [(⟨zy, zn, zt⟩ : AMv)], SetN N x.to) := fun x hx => by
                      rcases List.mem_append.1 hx with h | h
                      · exact HXN.out x h
                      · rw [List.mem_singleton] at h
                        subst h
                        exact HJN.out
                    have hadd' : addA nx ⟨zy, zn, zt⟩ = nx ++ [⟨zy, zn, zt⟩] := by rw [HADD.out, hany]; simp
                    have hlen8 : (nx ++ [(⟨zy, zn, zt⟩ : AMv)]).length = k7 := by rw [List.length_append, List.length_singleton, ← HPLN.out]; exact hk7
                    obtain ⟨a10, cap10, hu, q10, q11⟩ := owns_form hS8
                    rw [hk7] at hu q10
                    subst hu
                    have HX8' := Lib.hid HX8
                    clear hS8 g8 hor hz8 hHA HX8 hown8 hA7
                    by_cases hlen : k7 ≤ 4096
                    · have hlen' : decide ((4096 : Int) < (k7 : Int)) = false := decide_eq_false (by omega)
                      have H3' : Hid (((stepY ⟨xy, xn, xt⟩ (ys.drop (i + 1)) (nx ++ [⟨zy, zn, zt⟩])).bind (stepX ys (row.drop (j + 1)))).bind (waysRow sts (l.drop (k + 1))) = R1) := by
                        have := H3.out
                        rw [HST.out, hadd', if_pos (by rw [hlen8]; exact hlen)] at this
                        exact this
                      go_wp2
                      have hbx' := HBX.out
                      subst hbx'
                      go_roundw
                      case rel => exact ⟨i + 1, _, rfl, by omega, by rw [hlen8]; exact hlen, H3', HX8', HXN8, hB8, HH8, HNE9⟩
                      case measure => simp [intOf]; omega
                    · have hlen' : decide ((4096 : Int) < (k7 : Int)) = true := decide_eq_true (by omega)
                      have hR1 : R1 = none := by
                        have := H3.out
                        rw [HST.out, hadd', if_neg (by rw [hlen8]; exact hlen)] at this
                        exact this.symm
                      go_wp2
                      have hRn : R = none := by rw [← HRR.out, hR1]; rfl
                      have hBw := hB.trans (hB8.mono hB.size)
                      rw [hRn]
                      exact ⟨rfl, rfl, Kq.of_below hBw, hBw.mono hβ⟩
                · have hc' : ((c : Int) == 0) = false := by simp; omega
                  have hsame : addA nx ⟨zy, zn, zt⟩ = nx := by rw [HADD.out]; simp [hc]
                  have H3' : Hid (((stepY ⟨xy, xn, xt⟩ (ys.drop (i + 1)) nx).bind (stepX ys (row.drop (j + 1)))).bind (waysRow sts (l.drop (k + 1))) = R1) := by
                    have := H3.out
                    rw [HST.out, hsame, if_pos hn96] at this
                    exact this
                  go_wp2
                  exact ⟨⟨_, _, _, _, ⟨i + 1, by simp, by omega, nx, hn96, H3', HXc, HXN, HNE8⟩, rfl, HBX.out.symm, rfl, rfl, rfl⟩, by simp [intOf]; omega⟩
            · have hip' : decide ((i : Int) < (p : Int)) = false := decide_eq_false (by omega)
              have H2 : Hid ((stepX ys (row.drop (j + 1)) nx).bind (waysRow sts (l.drop (k + 1))) = R1) := by
                have := H3.out
                rw [List.drop_eq_nil_of_le (by rw [HPL.out]; omega)] at this
                exact this
              go_wp2
              exact ⟨⟨j + 1, nx, rfl, by omega, hn96, H2, HX, HXN, hB5⟩, by simp [intOf]; omega⟩
        · have hjq' : decide ((j : Int) < (q : Int)) = false := decide_eq_false (by omega)
          have H1 : Hid (waysRow sts (l.drop (k + 1)) nx = R1) := by
            have := H2.out
            rw [List.drop_eq_nil_of_le (by rw [HQ.out]; omega)] at this
            exact this
          have HX2 := Lib.hid (HX.out.mono hB.size)
          have hB3 := hB.trans (hB2.mono hB.size)
          go_wp2
          exact ⟨⟨k + 1, nx, rfl, by omega, hn96, H1, HX2, HXN, hB3⟩, by simp [intOf]; omega⟩
    · have hkn' : decide ((k : Int) < (n : Int)) = false := decide_eq_false (by omega)
      have hres : some row = R1 := by
        rw [← H1.out, List.drop_eq_nil_of_le (by rw [HN.out]; omega)]; rfl
      subst hres
      have H2 : Hid (outs sts fin (row.drop 0) rows [] = R) := HRR.out
      have HKw := Lib.hid (Kq.of_below hB)
      have HBw := Lib.hid (hB.mono hβ)
      have HMw := Lib.hid (HM.out.below hB)
      obtain ⟨a3, cap3, rfl, hc3, hm3⟩ := HO.out.form
      obtain ⟨q, hq⟩ : ∃ q, row.length = q := ⟨_, rfl⟩
      rw [hq] at hc3 HO hr96 ⊢
      have HQ := Lib.hid hq
      have HUN : Hid (W1.ownsRow w.heap.size 53 4 (.slice none 0 0) 0 (mvs [])) := World.ownsRow_nil W1 w.heap.size 53 4
      clear hq
      go_wp2
      go_loopw [14, 95] (fun u y w4 => ∃ (i : Nat) (acc : List Mv) (rows' : List (List Int)) (vr' : Value) (rvs' : List Value), y = .int .i64 (i : Int) ∧ i ≤ q ∧ acc.length = i ∧ Hid (outs sts fin (row.drop i) rows' acc = R) ∧ Hid (w4.ownsRow w.heap.size 53 4 u i (mvs acc)) ∧ Hid (∀ m ∈ acc, m.wf) ∧ Hid (MkM β M nb w4 va (.slice a1 N cap1) vf vr' rows' rvs' mv) ∧ Hid (Kq w w4) ∧ Hid (Below β w w4) ∧ Hid (OwnN w.heap.size w4 (.slice a3 q cap3) row)) (fun _ y _ => (q + 10 - intOf y).toNat)
      case atStart => exact ⟨0, [], rows, vr, rvs, rfl, Nat.zero_le _, rfl, H2, HUN, (fun m hm => by cases hm), HMw, HKw, HBw, HO⟩
      case round =>
        clear H2 HUN HMw HKw HBw HO
        obtain ⟨i, acc, rows', vr', rvs', rfl, hi, hal, H2, HU, HWF, HMr, HK, HBb, HO⟩ := hrel
        obtain ⟨W2, rfl⟩ : ∃ W, W = wr := ⟨wr, rfl⟩
        obtain ⟨a4, cap4, rfl, hc4, hm4⟩ := owns_form HU.out
        by_cases hiq : i < q
        · have hiq' : (i : Int) < (q : Int) := by omega
          obtain ⟨ps, hps, hown, hall⟩ := HO.out
          have hpl : ps.length = q := by rw [← HQ.out, ← hps, List.length_map]
          obtain ⟨g3, o3, rfl, hg3, x0, x1, x2⟩ := RowP.at (k := i) (ps := ps) (Row.of_owns hown) (by omega)
          have hpi : ps[i]? = some (ps[i]'(by omega)) := List.getElem?_eq_getElem (by omega)
          have hxi : row[i]? = some (ps[i]'(by omega)).1 := by rw [← hps, List.getElem?_map, hpi]; rfl
          obtain ⟨hxo, q1, q2⟩ := hall (ps[i]'(by omega)) (List.getElem_mem _)
          have hxs := HSN.out _ (List.mem_of_getElem? hxi)
          have hdx := drop_at hxi
          generalize ps[i]'(by omega) = pi at x0 x1 x2 hxi hxo q1 q2 hxs hdx
          obtain ⟨⟨xy, xn, xt⟩, xv⟩ := pi
          simp only at x0 x1 x2 hxi hxo q1 q2 hxs hdx
          obtain ⟨a5, cap5, rfl, hc5, hm5⟩ := owns_form hxo.1
          obtain ⟨p5, hp5⟩ : ∃ p5, xt.length = p5 := ⟨_, rfl⟩
          rw [hp5] at x2 hc5
          have hxo' : OwnI w.heap.size W2 (.slice a5 p5 cap5) xt := by rw [← hp5]; exact hxo
          obtain ⟨Z, hZ⟩ : ∃ Z, setsFrom sts ⟨xy, xn, xt⟩ 0 fin 0 = Z := ⟨_, rfl⟩
          have hZlt : Z < 18446744073709551616 := by rw [← hZ]; exact setsFrom_lt _ _ _ _ _ (by omega) (by omega)
          have hstep : (stateRes rows' xt).bind (fun r => outs sts fin (row.drop (i + 1)) r.2 (acc ++ [⟨xy, xn, (r.1 : Int), Z⟩])) = R := by
            rw [← H2.out, hdx, ← hZ]; rfl
          have hAl : Below W2.heap.size W2 (W2.alloc (.cells #[.int .u64 (xy : Int), .int .u64 (xn : Int), .slice a5 p5 cap5] 89)) := (Below.refl _ _).alloc (Nat.le_refl _) _
          have hHx := Holds.new W2 89 #[.int .u64 (xy : Int), .int .u64 (xn : Int), .slice a5 p5 cap5]
          obtain ⟨bx, hbx⟩ : ∃ bx, W2.heap.size = bx := ⟨_, rfl⟩
          have HAl := Lib.hid hAl
          have HHx := Lib.hid hHx
          have HBX := Lib.hid hbx
          have HXO := Lib.hid hxo'
          have HXS := Lib.hid hxs
          have HSTEP := Lib.hid hstep
          have HPS := Lib.hid hps
          clear hAl hHx hbx hxo hxo' hxs hstep hdx hxi hpi hown hall hps
          go_wp2
          have hW3s : W2.heap.size < (W2.alloc (.cells #[.int .u64 (xy : Int), .int .u64 (xn : Int), .slice a5 p5 cap5] 89)).heap.size := by simp
          generalize hW3 : W2.alloc (.cells #[.int .u64 (xy : Int), .int .u64 (xn : Int), .slice a5 p5 cap5] 89) = W3 at *
          have hH3 := HHx.out
          rw [HBX.out] at hH3
          have hK3 : Kq w W3 := HK.out.trans (Kq.of_below HAl.out)
          have hβ2 : β ≤ W2.heap.size := Nat.le_trans hβ HK.out.size
          have hB3 : Below β w W3 := HBb.out.trans (HAl.out.mono hβ2)
          have hM3 := HMr.out.below HAl.out
          have hU3 := (Fr.of_below HAl.out (fun _ => False)).owns HU.out (fun _ _ h => h)
          have hO3 := HO.out.below HAl.out
          have hx3 := HXO.out.below HAl.out
          have hβ3 : β ≤ W3.heap.size := Nat.le_trans hβ2 HAl.out.size
          have H31 : Hid (∀ w', Below W3.heap.size W3 w' → Calls Tryd.prog 31 #[.pointer (some ⟨M, 0, none⟩), .slice a5 p5 cap5] w' fun e w'' => StateOut β M nb mv w' va (.slice a1 N cap1) vf rvs' (.slice a5 p5 cap5) (stateRes rows' xt) e w'') := fun w' hw' =>
            stateFn β M nb mv w' va _ vf vr' rows' rvs' _ xt (hM3.below hw') ((hx3.below hw').any hβ) (HXS.out.small hN)
          have H51 : Hid (∀ w' vr2, Holds w' M 84 [va, .slice a1 N cap1, vf, .map (some nb), vr2, .int .i64 (mv : Int)] → Kq W3 w' → Below β W3 w' → Calls Tryd.prog 51 #[.pointer (some ⟨M, 0, none⟩), .agg #[.int .u64 (xy : Int), .int .u64 (xn : Int), .slice a5 p5 cap5]] w' fun e w'' => e = .returned (.int .u64 (Z : Int)) ∧ Below w'.heap.size w' w'') := fun w' vr2 h1 h2 h3 => by
            have := setsFn β M va (.slice a1 N cap1) vf (.map (some nb)) vr2 (.int .i64 (mv : Int)) sts fin (⟨xy, xn, xt⟩, .slice a5 p5 cap5) w' h1 (Nat.le_trans hβ3 h2.size) (HS.out.below (hB3.trans h3)) ((hK3.trans h2).owns HF.out (by decide) (by decide)) (fun f hf => by rw [HNE.out]; exact HFI.out f hf) hfl (by rw [HNE.out]; omega) ((hx3.kq h2).any hβ) ⟨q1, q2⟩
            rw [hZ] at this
            exact this
          have H3d : Hid (Below W3.heap.size W3 W3.drew) := (Below.refl _ _).drew
          have HK3 := Lib.hid hK3
          have HB3 := Lib.hid hB3
          have HM3 := Lib.hid hM3
          have HU3 := Lib.hid hU3
          have HO3 := Lib.hid hO3
          have HH3 := Lib.hid hH3
          have hC : Hid (∀ w', Holds w' bx 89 [.int .u64 (xy : Int), .int .u64 (xn : Int), .slice a5 p5 cap5] → (fun w' : World => w'.cell? ⟨bx, 0, none⟩ = some (.int .u64 (xy : Int)) ∧ w'.cell? ⟨bx, 1, none⟩ = some (.int .u64 (xn : Int)) ∧ w'.cell? ⟨bx, 2, none⟩ = some (.slice a5 p5 cap5)) w') := fun w' h => ⟨h.cell 0, h.cell 1, h.cell 2⟩
          have hCk : Hid (∀ w', Kq W3 w' → Holds w' bx 89 [.int .u64 (xy : Int), .int .u64 (xn : Int), .slice a5 p5 cap5]) := fun w' h => h.row bx _ 89 (by decide) (by decide) HH3.out
          clear hK3 hB3 hM3 hU3 hO3 hx3 hH3 x0 x1 x2
          simp only [HBX.out]
          cases hsr : stateRes rows' xt with
          | none =>
            rw [hsr] at H31
            have hRn : R = none := by rw [← HSTEP.out, hsr]; rfl
            subst hRn
            have y0 := HH3.out.cell 0
            have y1 := HH3.out.cell 1
            have y2 := HH3.out.cell 2
            simp only [List.getElem?_cons_zero, List.getElem?_cons_succ] at y0 y1 y2
            go_region_dies
            all_goals (go_at_call 31; refine (H31.out _ H3d.out).mono ?_; rintro e w6 ⟨rfl, hK6, hB6⟩; exact ⟨rfl, rfl, (HK3.out.trans (Kq.of_below H3d.out)).trans hK6, (HB3.out.trans (H3d.out.mono hβ3)).trans hB6⟩)
          | some r =>
            obtain ⟨ri, rows2⟩ := r
            rw [hsr] at H31
            obtain ⟨i0, hi0, hz0, hz1, hz2⟩ := info_parts Tryd.info53
            have HM1 : Hid (Mv.wf ⟨xy, xn, (ri : Int), Z⟩) := ⟨q1, q2, by
              obtain ⟨_, _, _, k1, k2⟩ := owns_form HMr.out.row
              have k3 := stateRes_le hsr
              unfold maxLen at k2
              show -9223372036854775808 ≤ (ri : Int) ∧ (ri : Int) ≤ 9223372036854775807
              omega, hZlt⟩
            have H2' : Hid (outs sts fin (row.drop (i + 1)) rows2 (acc ++ [⟨xy, xn, (ri : Int), Z⟩]) = R) := by
              have := HSTEP.out
              rw [hsr] at this
              exact this
            go_region_held3 (fun w' : World => w'.cell? ⟨bx, 0, none⟩ = some (.int .u64 (xy : Int)) ∧ w'.cell? ⟨bx, 1, none⟩ = some (.int .u64 (xn : Int)) ∧ w'.cell? ⟨bx, 2, none⟩ = some (.slice a5 p5 cap5)) (first | exact hC.out _ (hCk.out _ (Kq.of_below H3d.out)) | exact HC5.out | exact HC6.out | exact HC7.out | exact HC8.out | exact HC9.out) (first
              | (go_at_call 31; refine (H31.out _ H3d.out).mono ?_; rintro e w6 ⟨rfl, vr2, rvs2, hM6, hK6, hB6, _⟩; have HM6 := Lib.hid hM6; have HK6 := Lib.hid ((Kq.of_below H3d.out).trans hK6); have HB6 := Lib.hid ((H3d.out.mono hβ3).trans hB6); have HC6 := Lib.hid (hC.out _ (hCk.out _ HK6.out)); clear hM6 hK6 hB6)
              | (go_at_call 31; refine (H31.out _ H5.out).mono ?_; rintro e wF ⟨rfl, vr2, rvs2, hM6, hK6, hB6, _⟩; have HMF := Lib.hid hM6; have HKF := Lib.hid ((Kq.of_below H5.out).trans hK6); have HBF := Lib.hid ((H5.out.mono hβ3).trans hB6); have HC7 := Lib.hid (hC.out _ (hCk.out _ HKF.out)); have HC8 := Lib.hid (hC.out _ ((hCk.out _ HKF.out).alloc (.cells #[.int .u64 (xy : Int), .int .u64 (xn : Int), .int .i64 (ri : Int), .int .u64 (Z : Int)] 53))); clear hM6 hK6 hB6)
              | (go_at_call 51; refine (H51.out _ _ HM6.out.t HK6.out HB6.out).mono ?_; rintro e wF ⟨rfl, hbF⟩; have HMF := Lib.hid (HM6.out.below hbF); have HKF := Lib.hid (HK6.out.trans (Kq.of_below hbF)); have HBF := Lib.hid (HB6.out.trans (hbF.mono (Nat.le_trans hβ3 HK6.out.size))); have HC7 := Lib.hid (hC.out _ (hCk.out _ HKF.out)); have HC8 := Lib.hid (hC.out _ ((hCk.out _ HKF.out).alloc (.cells #[.int .u64 (xy : Int), .int .u64 (xn : Int), .int .i64 (ri : Int), .int .u64 (Z : Int)] 53))); clear hbF)
              | (go_at_call 51; refine (H51.out _ _ (HM3.out.below H3d.out).t (Kq.of_below H3d.out) (H3d.out.mono hβ3)).mono ?_; rintro e w5 ⟨rfl, hb5⟩; have H5 := Lib.hid (H3d.out.trans hb5); have HC5 := Lib.hid (hC.out _ (hCk.out _ (Kq.of_below H5.out))); clear hb5)
              | (refine wp_append_own _ (.tmp 99) (.tmp 110) _ rfl w.heap.size 53 i0 _ 4 32 Tryd.underlying48 hi0 hz0 hz1 hz2 rfl (by omega) (.slice a4 i cap4) i (mvs acc) rfl ((HKF.out.owns HU3.out (by decide) (by decide)).alloc (.cells #[.int .u64 (xy : Int), .int .u64 (xn : Int), .int .i64 (ri : Int), .int .u64 (Z : Int)] 53)) ⟨wF.heap.size, 0, none⟩ 1 1 [.int .u64 (xy : Int), .int .u64 (xn : Int), .int .i64 (ri : Int), .int .u64 (Z : Int)] rfl rfl (cells_of_new _ _ rfl [.int .u64 (xy : Int), .int .u64 (xn : Int), .int .i64 (ri : Int), .int .u64 (Z : Int)] 53) (by simp [Value.oneCell']) (by unfold maxLen; omega) (by omega) (Nat.le_trans (HK3.out.trans HKF.out).size (by simp)) ?_; intro u' w9 hS9 g9 _; obtain ⟨a9, cap9, rfl, hc9, hm9⟩ := owns_form hS9; have hUA := ((HKF.out.owns HU3.out (by decide) (by decide)).alloc (.cells #[.int .u64 (xy : Int), .int .u64 (xn : Int), .int .i64 (ri : Int), .int .u64 (Z : Int)] 53)); have HE := Lib.hid (ways_end hβ HK3.out HKF.out HB3.out HBF.out HMF.out HO3.out hUA g9); have HC9 := Lib.hid (hC.out _ (own_kept hUA g9 ((hCk.out _ HKF.out).alloc (.cells #[.int .u64 (xy : Int), .int .u64 (xn : Int), .int .i64 (ri : Int), .int .u64 (Z : Int)] 53)) (by decide))); have HU9 : Hid (w9.ownsRow w.heap.size 53 4 (.slice a9 (i + 1) cap9) (i + 1) (mvs (acc ++ [⟨xy, xn, (ri : Int), Z⟩]))) := (by rw [mvs_snoc]; exact hS9); clear hUA g9 hS9))
            all_goals (
              have HWF' : Hid (∀ m ∈ acc ++ [(⟨xy, xn, (ri : Int), Z⟩ : Mv)], m.wf) := fun m hm => by
                rcases List.mem_append.1 hm with h | h
                · exact HWF.out m h
                · rw [List.mem_singleton] at h
                  subst h
                  exact HM1.out
              have hal' : (acc ++ [(⟨xy, xn, (ri : Int), Z⟩ : Mv)]).length = i + 1 := by rw [List.length_append, hal]; rfl
              have HM9 := Lib.hid HE.out.1
              have HK9 := Lib.hid HE.out.2.1
              have HB9 := Lib.hid HE.out.2.2.1
              have HO9 := Lib.hid HE.out.2.2.2
              have hbx' := HBX.out
              subst hbx'
              go_wp2
              go_roundw
              case rel => exact ⟨i + 1, _, rows2, vr2, rvs2, rfl, by omega, hal', H2', HU9, HWF', HM9, HK9, HB9, HO9⟩
              case measure => simp [intOf]; omega)
        · have hiq' : decide ((i : Int) < (q : Int)) = false := decide_eq_false (by omega)
          have hres : some (acc, rows') = R := by
            rw [← H2.out, List.drop_eq_nil_of_le (by rw [HQ.out]; omega)]; rfl
          subst hres
          go_wp2
          go_ret
          exact ⟨_, rfl, by rw [hal]; exact HU.out, HWF.out, vr', rvs', HMr.out, HK.out, HBb.out⟩
end Go.Proofs.YtelanndleinabaaDoor
