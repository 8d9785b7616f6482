/- The walk of threads.here. -/
import Derived.Test.YtcopoaaofjeklaaAac
import Derived.Test.YtcopoaaofjeklaaTft
namespace Go.Proofs.Ytcopoaaofjeklaa.G
open Go.RowKit
set_option linter.unusedVariables false
set_option linter.unusedSimpArgs false

theorem tfootT_lt {t : PThr} {p : List TNode} {x : TNode} {a : TArc} (h : t.props.length ≤ 60) : tfootT t p x a < 18446744073709551616 := by
  unfold tfootT
  refine Nat.or_lt_two_pow (n := 64) ?_ ?_
  · split
    · have h1 := tturns_lt a.sobj t.props 0
      exact Nat.lt_of_lt_of_le h1 (Nat.pow_le_pow_right (by omega) (by omega))
    · exact Nat.two_pow_pos _
  · split
    · split
      · decide
      · exact Nat.two_pow_pos _
    · exact Nat.two_pow_pos _
theorem footP_big {t : PThr} {p : List TNode} {x : TNode} {a : TArc} (h : t.props.length ≤ 60) : BigF (footP t p x a) 1 := by
  refine ⟨?_, ?_, tfootT_lt h⟩
  · show (footR a).length ≤ 1
    unfold footR
    split <;> simp
  · show (footW a).length ≤ 1
    unfold footW
    split <;> simp
theorem hereGo_big {t : PThr} {p : List TNode} {x : TNode} (h : t.props.length ≤ 60) : ∀ (l : List TArc) {f : PFoot} {n : Nat}, BigF f n → BigF (hereGo t p x l f) (n + l.length)
  | [], f, n, hf => hf
  | a :: l, f, n, hf => by
    have h1 := hereGo_big (p := p) (x := x) h l (hf.tog (footP_big (p := p) (x := x) (a := a) h))
    rw [List.length_cons, Nat.add_comm l.length 1, ← Nat.add_assoc]
    exact h1
theorem zero_big (n : Nat) : BigF zeroF n := ⟨Nat.zero_le _, Nat.zero_le _, by show 0 < _; omega⟩
theorem arcs_le {t : PThr} (ht : OkT t) {p : List TNode} (hp : p ∈ t.procs) {x : TNode} (hx : x ∈ p) : x.arcs.length ≤ 1000 := by
  have h1 := (ht.procs p hp).2.2.1
  have h2 : x.arcs.length ∈ p.map fun x => x.arcs.length := List.mem_map.2 ⟨x, hx, rfl⟩
  have h3 : ∀ (l : List Nat) (n : Nat), n ∈ l → n ≤ l.sum := by
    intro l
    induction l with
    | nil => intro n h; cases h
    | cons a l ih =>
      intro n h
      rw [List.sum_cons]
      rcases List.mem_cons.1 h with rfl | h
      · omega
      · have := ih n h; omega
  have := h3 _ _ h2
  omega
theorem hereF_big {t : PThr} (ht : OkT t) {p : List TNode} (hp : p ∈ t.procs) (k : Nat) : BigF (hereF t p k) 1000 := by
  unfold hereF
  split
  · rename_i x hx
    have h1 := hereGo_big (p := p) (x := x) ht.len.2.2 x.arcs (zero_big 0)
    have h2 := arcs_le ht hp (List.mem_of_getElem? hx)
    exact ⟨Nat.le_trans h1.1 (by omega), Nat.le_trans h1.2.1 (by omega), h1.2.2⟩
  · exact zero_big _
theorem hereGo_at {t : PThr} {p : List TNode} {x : TNode} {l : List TArc} {i : Nat} (h : i < l.length) (f : PFoot) : hereGo t p x (l.drop i) f = hereGo t p x (l.drop (i + 1)) (togP f (footP t p x l[i])) := by
  rw [List.drop_eq_getElem_cons h, hereGo]
/-- A footprint in a box of one's own, its rows in memory made since. -/
structure BoxF (w1 : World) (b lo : Nat) (f : PFoot) (W : World) : Prop where
  fr : Fr (fun q => q = b) w1 W
  box : ∃ vr vw, Holds W b 25 [vr, vw, .int .u64 (f.turns : Int)] ∧ RowL (From lo) W 1 vr f.reads.length (f.reads.map intV) ∧ RowL (From lo) W 1 vw f.writes.length (f.writes.map intV)
  lt : b < lo ∧ lo ≤ W.heap.size
theorem BoxF.fresh {w1 W W' : World} {b lo : Nat} {f : PFoot} (h : BoxF w1 b lo f W) (hb : Below W.heap.size W W') : BoxF w1 b lo f W' := by
  obtain ⟨vr, vw, h1, h2, h3⟩ := h.box
  exact ⟨h.fr.trans (Fr.of_below hb (fun q => q = b)) fun _ _ h => h, ⟨vr, vw, h1.belowAll hb, h2.up (Keep.below hb), h3.up (Keep.below hb)⟩, h.lt.1, Nat.le_trans h.lt.2 hb.size⟩
theorem BoxF.put {w1 W W' : World} {b lo : Nat} {f g : PFoot} {vr vw : Value} (h : BoxF w1 b lo f W) (hW : W' = setR W b 0 [vr, vw, .int .u64 (g.turns : Int)]) (h1 : RowL (From lo) W 1 vr g.reads.length (g.reads.map intV)) (h2 : RowL (From lo) W 1 vw g.writes.length (g.writes.map intV)) : BoxF w1 b lo g W' := by
  have hf : Fr (fun q => q = b) W W' := by rw [hW]; exact Fr.setRX _ _ 0 _
  obtain ⟨ur, uw, k1, _, _⟩ := h.box
  have h5 := k1.stored hW (Nat.le_of_ble_eq_true rfl)
  exact ⟨h.fr.trans hf fun _ _ h => h, ⟨vr, vw, h5, row_fr h1 hf h.lt.1, row_fr h2 hf h.lt.1⟩, h.lt.1, Nat.le_trans h.lt.2 hf.size⟩
theorem RowL.inP {P : Nat → Prop} {w : World} {sz n g o cap : Nat} {f : List Value} (h : RowL P w sz (.slice (some ⟨g, o, none⟩) n cap) n f) (hn : 0 < n) : P g := by
  obtain ⟨a, cap', he, _, _, _, _, h6⟩ := h
  obtain ⟨g', o', _, _, k1, k2, _⟩ := h6 hn
  injection he with he _ _
  rw [← he] at k1
  injection k1 with k1
  injection k1 with k1 _ _
  rw [k1]
  exact k2
set_option maxHeartbeats 4000000 in
set_option maxRecDepth 100000 in
theorem hereFn {P : Nat → Prop} {w : World} {t : PThr} {vi vp vq : Value} {p k : Nat} (h : ThrV P w vi vp vq t) (ht : OkT t) (hp : p < t.procs.length) (hk : k < t.procs[p].length) :
    Calls Try.prog 57 #[.agg #[vi, vp, vq], .int .i64 (p : Int), .int .i64 (k : Int)] w (FootP (hereF t t.procs[p] k) w) := by
  have h := h.mono (Q := fun q => q < w.heap.size) fun q _ hq => hq
  have c1 : vi.oneCell' = true := h.init.cell1
  have c3 : vq.oneCell' = true := by obtain ⟨_, k, _⟩ := h.props; exact k.cell1
  obtain ⟨fp, p1, p2⟩ := h.procs
  obtain ⟨ap, cp, rfl, hcp, hcp2, _⟩ := p1.form
  obtain ⟨lp, hlp⟩ : ∃ l, t.procs[p] = l := ⟨_, rfl⟩
  have hlm : lp ∈ t.procs := by rw [← hlp]; exact List.getElem_mem hp
  rw [hlp] at hk ⊢
  obtain ⟨x, hx⟩ : ∃ x, lp[k] = x := ⟨_, rfl⟩
  have hxm : x ∈ lp := by rw [← hx]; exact List.getElem_mem hk
  have HHF : Hid (hereF t lp k = hereGo t lp x x.arcs zeroF) := by show _ = _; unfold hereF; rw [List.getElem?_eq_getElem hk, hx]
  obtain ⟨w1, hw1⟩ : ∃ W, W = ((w.alloc (.cells #[vi, .slice ap t.procs.length cp, vq] 66)).alloc (.cells #[.slice none 0 0, .slice none 0 0, .int .u64 0] 25)).alloc (.cells #[.slice none 0 0, .slice none 0 0, .int .u64 0] 25) := ⟨_, rfl⟩
  have hb1 : Below w.heap.size w w1 := by rw [hw1]; exact (((Below.refl _ _).alloc (Nat.le_refl _) _).alloc (by simp) _).alloc (by simp; omega) _
  have h3 : Holds w1 w.heap.size 66 [vi, .slice ap t.procs.length cp, vq] := by rw [hw1]; exact ((Holds.new w 66 #[vi, .slice ap t.procs.length cp, vq]).alloc _).alloc _
  have h6 : Holds w1 (w.heap.size + 1) 25 [.slice none 0 0, .slice none 0 0, .int .u64 0] := by
    have h := (Holds.new (w.alloc (.cells #[vi, .slice ap t.procs.length cp, vq] 66)) 25 #[.slice none 0 0, .slice none 0 0, .int .u64 0]).alloc (.cells #[.slice none 0 0, .slice none 0 0, .int .u64 0] 25)
    simp only [World.size_alloc] at h
    rw [hw1]; exact h
  have h7 : Holds w1 (w.heap.size + 1 + 1) 25 [.slice none 0 0, .slice none 0 0, .int .u64 0] := by
    have h := (Holds.new ((w.alloc (.cells #[vi, .slice ap t.procs.length cp, vq] 66)).alloc (.cells #[.slice none 0 0, .slice none 0 0, .int .u64 0] 25)) 25 #[.slice none 0 0, .slice none 0 0, .int .u64 0])
    simp only [World.size_alloc] at h
    rw [hw1]; exact h
  obtain ⟨b3, hb3⟩ : ∃ b, w.heap.size = b := ⟨_, rfl⟩
  have HBB : Hid (w.heap.size = b3) := hb3
  have hv1 := h.up (Keep.below hb1)
  obtain ⟨np, hnp⟩ : ∃ n, t.procs.length = n := ⟨_, rfl⟩
  obtain ⟨z, hz⟩ : ∃ n, lp.length = n := ⟨_, rfl⟩
  obtain ⟨K, hK⟩ : ∃ n, x.arcs.length = n := ⟨_, rfl⟩
  have hK2 : K ≤ 1000 := by rw [← hK]; exact arcs_le ht hlm hxm
  obtain ⟨gp, op, cp', c, he, hG, hr⟩ := (p1.up (Keep.below hb1)).atN oneTProc (LsF.up (fun _ _ => oneTProc.up (Keep.below hb1)) _ p2) hp
  injection he with he _ hec
  subst he hec
  rw [hlp] at hG
  obtain ⟨v9, f9, rfl, r9, g9⟩ := hG
  have hcl := hr 0 v9 rfl
  rw [Nat.add_zero, Nat.mul_one] at hcl
  obtain ⟨gn, on, cn, c, rfl, hGn, hrn⟩ := r9.atN oneTNode g9 hk
  rw [hx] at hGn
  obtain ⟨va, fa, rfl, ra, ga⟩ := hGn
  obtain ⟨aa, ac, rfl, hac, hac2, _⟩ := ra.form
  have q0 := hrn 0 (.slice aa x.arcs.length ac) rfl
  have q1 := hrn 1 (.bool x.fin) rfl
  have q2 := hrn 2 (.bool x.prog) rfl
  have q3 := hrn 3 (.bool x.acc) rfl
  have e1 := h3.cell 1
  simp only [List.getElem?_cons_zero, List.getElem?_cons_succ] at e1
  have HV1 := Lib.hid hv1
  have HR9 := Lib.hid r9
  have HG9 := Lib.hid g9
  have HRA := Lib.hid ra
  have HGA := Lib.hid ga
  have HB1 := Lib.hid hb1
  have H3 := Lib.hid h3
  have H6 := Lib.hid h6
  have H7 := Lib.hid h7
  have HT := Lib.hid ht
  have HK := Lib.hid hK
  have HZ := Lib.hid hz
  have HNP := Lib.hid hnp
  have HX := Lib.hid hx
  have HLM := Lib.hid hlm
  have HXM := Lib.hid hxm
  have HCN : Hid (∀ j, j < 4 → w1.cell? ⟨gn, on + k * 4 + j, none⟩ = ([.slice aa x.arcs.length ac, .bool x.fin, .bool x.prog, .bool x.acc] : List Value)[j]?) := fun j hj => match j, hj with
    | 0, _ => q0
    | 1, _ => q1
    | 2, _ => q2
    | 3, _ => q3
  have HGN : Hid (gn < b3) := by
    have h1 : gn < w.heap.size := RowL.inP (P := fun q => q < w.heap.size) r9 (by omega)
    rw [hb3] at h1
    exact h1
  have hi2p : (p : Int) < (np : Int) := by omega
  have hi0p : (0 : Int) ≤ (p : Int) := by omega
  have hi2k : (k : Int) < (z : Int) := by omega
  have hi0k : (0 : Int) ≤ (k : Int) := by omega
  rw [hnp] at hw1 e1 H3 hcp ⊢
  rw [hz] at hcl
  rw [hK] at q0 hac HCN
  rw [hb3] at H3 H6 H7 e1
  clear h p1 p2 hv1 hb1 h3 h6 h7 r9 g9 ra ga hrn hr ht hK hz hnp hlp hx hlm hxm q1 q2 q3
  go_enter Try.func57, Try.ntmps57
  go_upto_region 2 with (fail)
  rw [← hw1]
  clear hw1 hb3
  have HCL := Lib.hid hcl
  rw [Nat.add_zero] at q0
  go_wp2
  clear e1 q0 hcl
  go_loopw [23] (fun y W => ∃ i : Nat, y = .int .i64 (i : Int) ∧ i ≤ K ∧ Hid (∃ f, BoxF w1 (b3 + 1 + 1) (b3 + 1 + 1 + 1) f W ∧ hereGo t lp x (x.arcs.drop i) f = hereF t lp k ∧ BigF f i)) (fun y _ => K - (intOf y).toNat)
  case atStart => exact ⟨0, rfl, Nat.zero_le _, ⟨zeroF, ⟨Fr.refl _ _, ⟨_, _, H7.out, RowL.nil _ _ _, RowL.nil _ _ _⟩, by omega, H7.out.lt⟩, by rw [HHF.out]; rfl, zero_big 0⟩⟩
  case round =>
    obtain ⟨i, hy, hi, HF⟩ := hrel
    subst hy
    by_cases hik : i < K
    · have hil : i < x.arcs.length := by rw [HK.out]; exact hik
      have hi2i : (i : Int) < (K : Int) := by omega
      have hi0i : (0 : Int) ≤ (i : Int) := by omega
      have hwji : IntKind.i64.wrap ((i : Int) + 1) = (i : Int) + 1 := by rw [IntKind.wrap_i64]; omega
      obtain ⟨f, hbf, hgo, hbig⟩ := HF.out
      have hfr := hbf.fr
      have hlow : ∀ q, q < b3 → q ≠ b3 + 1 + 1 := fun q hq e => by omega
      have hkp : Keep (fun q => q < b3) w1 wr := fun q hq hs => hfr.block q hs fun e => by have h1 : q < b3 := hq; have e : q = b3 + 1 + 1 := e; omega
      have hra := HRA.out
      have hga := HGA.out
      rw [HBB.out] at hra hga
      obtain ⟨ga, oa, ca, c, he, hG, hr⟩ := (hra.up hkp).atN oneTArc (LsF.up (fun _ _ => oneTArc.up hkp) _ hga) hil
      injection he with he _ hec
      subst he hec
      have hG : c = _ := hG
      subst hG
      obtain ⟨a, hA⟩ : ∃ a, x.arcs[i] = a := ⟨_, rfl⟩
      have HA := Lib.hid hA
      rw [hA] at hr
      have hOK : OkA t.init.length lp.length a := (HT.out.procs lp HLM.out).2.2.2 x HXM.out a (by rw [← hA]; exact List.getElem_mem hil)
      have HOK := Lib.hid hOK
      have hstep := hereGo_at (t := t) (p := lp) (x := x) hil f
      rw [hA, hgo] at hstep
      have HST := Lib.hid hstep
      have HBF := Lib.hid hbf
      have HBG := Lib.hid hbig
      clear hstep hOK hA hgo hbf hbig HF hra hga hfr hlow hkp
      have HNB := Lib.hid (rfl : a = a)
      obtain ⟨d, te, ob, va, pu, so, st, bad⟩ := a
      have HR := Lib.hid hr
      simp only [tarcC] at HR
      have HZA := Lib.hid (Holds.new wr 64 #[.int .i64 0, .bool false, .int .i64 0, .int .i64 0, .bool false, .int .i64 0, .int .i64 0, .int .i64 0])
      clear hr
      go_wp2_with (first | (refine wpList_load_mid rfl 64 _ rfl ga (oa + i * 8) rfl [.int .i64 d, .bool te, .int .i64 ob, .int .i64 va, .bool pu, .int .i64 so, .int .i64 st, .int .i64 bad] _ HR.out Try.underlying64 rfl sz_TArc ?_) | (refine wpList_storeB rfl 64 _ _ rfl wr.heap.size 0 [.int .i64 d, .bool te, .int .i64 ob, .int .i64 va, .bool pu, .int .i64 so, .int .i64 st, .int .i64 bad] rfl rfl HZA.out (Nat.le_of_ble_eq_true rfl) sz_TArc rfl ?_))
      refine Named.mk (fun w5 hW5 => ?_)
      have hb5 : Below wr.heap.size wr w5 := by rw [hW5]; exact Below.far (Below.refl _ _) (Nat.le_refl _) _ _ _
      have h10 : Holds w5 wr.heap.size 64 [.int .i64 d, .bool te, .int .i64 ob, .int .i64 va, .bool pu, .int .i64 so, .int .i64 st, .int .i64 bad] := HZA.out.stored hW5 (Nat.le_of_ble_eq_true rfl)
      obtain ⟨b10, hb10⟩ : ∃ b, wr.heap.size = b := ⟨_, rfl⟩
      rw [hb10] at h10 ⊢
      have HB5 := Lib.hid hb5
      have H10 := Lib.hid h10
      have HB10 := Lib.hid hb10
      have HBF5 := Lib.hid (HBF.out.fresh hb5)
      clear hW5 hb5 h10 HZA HR hb10
      obtain ⟨ur, uw, k1, k2, k3⟩ := HBF5.out.box
      have KB := Lib.hid k1
      have KR := Lib.hid k2
      have KW := Lib.hid k3
      obtain ⟨g, hg⟩ : ∃ g, footP t lp x ⟨d, te, ob, va, pu, so, st, bad⟩ = g := ⟨_, rfl⟩
      have HGB : Hid (BigF g 1) := by rw [← hg]; exact footP_big HT.out.len.2.2
      have hfr5 : ∀ W, Fr (fun q => q = b3 + 1 + 1) w5 W → Fr (fun q => q = b3 + 1 + 1) w1 W := fun W hW => HBF5.out.fr.trans hW fun _ _ h => h
      have HFR := Lib.hid hfr5
      have hkp : ∀ W, Fr (fun q => q = b3 + 1 + 1) w5 W → Keep (fun q => q < w.heap.size) w1 W := fun W hW q hq hs => (hfr5 W hW).block q hs fun e => by have h1 : q < w.heap.size := hq; have e : q = b3 + 1 + 1 := e; have := HBB.out; omega
      have HFT : Hid (∀ W, Fr (fun q => q = b3 + 1 + 1) w5 W → Calls Try.prog 59 #[.agg #[vi, .slice (some ⟨gp, op, none⟩) np cp, vq], .slice (some ⟨gn, on, none⟩) z cn, .agg #[.slice (some ⟨ga, oa, none⟩) K ac, .bool x.fin, .bool x.prog, .bool x.acc], .agg #[.int .i64 d, .bool te, .int .i64 ob, .int .i64 va, .bool pu, .int .i64 so, .int .i64 st, .int .i64 bad]] W (FootP g W)) := fun W hW => by
        have h1 := footFn (x := x) (va := .slice (some ⟨ga, oa, none⟩) K ac) (HV1.out.up (hkp W hW)) HT.out.len.2.2 (HR9.out.up (hkp W hW)) (LsF.up (fun _ _ => oneTNode.up (hkp W hW)) _ HG9.out) rfl HOK.out.dst
        rw [HNP.out, HZ.out] at h1
        refine h1.mono fun e w' h => ?_
        obtain ⟨hb, vr, vw, rfl, h2, h3⟩ := h
        exact ⟨hb, _, rfl, vr, vw, by rw [← hg]; rfl, by rw [← hg]; exact h2.2, by rw [← hg]; exact h3.2⟩
      have HTG : Hid (∀ W v, Fr (fun q => q = b3 + 1 + 1) w5 W → TwoR w5.heap.size g v W → Calls Try.prog 56 #[.agg #[ur, uw, .int .u64 (f.turns : Int)], .agg #[v.1, v.2, .int .u64 (g.turns : Int)]] W (FootP (togP f g) W)) := fun W v hW hv => togFn ⟨ur, uw, rfl, row_fr KR.out hW (by omega), row_fr KW.out hW (by omega)⟩ ⟨Nat.le_trans HBG.out.1 (by omega), Nat.le_trans HBG.out.2.1 (by omega), HBG.out.2.2⟩ ⟨v.1, v.2, rfl, hv.1, hv.2⟩ ⟨Nat.le_trans HGB.out.1 (by omega), Nat.le_trans HGB.out.2.1 (by omega), HGB.out.2.2⟩
      have HND : Hid (∀ W, Fr (fun q => q = b3 + 1 + 1) w5 W → ∀ j, j < 4 → W.cell? ⟨gn, on + k * 4 + j, none⟩ = ([.slice (some ⟨ga, oa, none⟩) K ac, .bool x.fin, .bool x.prog, .bool x.acc] : List Value)[j]?) := fun W hW j hj => by
        rw [← HCN.out j hj]
        unfold World.cell?
        simp only
        rw [(hfr5 W hW).block gn (by have h1 := HB1.out.size; have := HGN.out; have := HBB.out; omega) (fun e => by have := HGN.out; have e : gn = b3 + 1 + 1 := e; omega)]
      have H35 : Hid (Holds w5 b3 66 [vi, .slice (some ⟨gp, op, none⟩) np cp, vq]) := HBF5.out.fr.holds H3.out (by omega)
      have HGG := Lib.hid hg
      clear hg hfr5 hkp k1 k2 k3
      have HN10 : Hid (b10 ≠ b3 + 1 + 1) := by
        have h1 := HBF.out.lt
        have h2 := HB10.out
        show b10 ≠ _
        omega
      go_upto_region 6 with (fail)
      refine wp_region_rho (fun (r : (Value × Value) × Value × Value) j => ([(.agg #[ur, uw, .int .u64 (f.turns : Int)]), (.agg #[vi, .slice (some ⟨gp, op, none⟩) np cp, vq]), (.slice (some ⟨gn, on, none⟩) z cn), (.slice (some ⟨gn, on, none⟩) z cn), (.int .i64 (k : Int)), (.pointer (some ⟨gn, on + k * 4, none⟩)), (.agg #[.slice (some ⟨ga, oa, none⟩) K ac, .bool x.fin, .bool x.prog, .bool x.acc]), (.agg #[.int .i64 d, .bool te, .int .i64 ob, .int .i64 va, .bool pu, .int .i64 so, .int .i64 st, .int .i64 bad]), (.agg #[r.1.1, r.1.2, .int .u64 (g.turns : Int)]), (.agg #[r.2.1, r.2.2, .int .u64 ((togP f g).turns : Int)]), (undef)] : List Value).getD j undef) (fun r L w2 => AccW w5 (b3 + 1 + 1) 0 8 9 10 f g (togP f g) ur uw r L w2) [(0, 27), (1, 28), (2, 29), (3, 30), (4, 31), (5, 32), (6, 33), (7, 34), (8, 35), (9, 36)] 39 rfl (by kernel_rfl) (by kernel_rfl) (by kernel_rfl) ((undef, undef), undef, undef) (AccW.start KB.out 11 (by decide)) (fun i hi => ?_) (fun r w9 hW9 => ?_)
      · have hi2 : i < 11 := hi
        clear hi
        have hi3 : i = 0 ∨ i = 1 ∨ i = 2 ∨ i = 3 ∨ i = 4 ∨ i = 5 ∨ i = 6 ∨ i = 7 ∨ i = 8 ∨ i = 9 ∨ i = 10 := by omega
        clear hi2
        rcases hi3 with rfl | rfl | rfl | rfl | rfl | rfl | rfl | rfl | rfl | rfl | rfl
        · exact RhoOp.make rfl (fun r L b w2 hs hl hR hW => by
            have hbx := hW.old (.inl hl)
            have e0 := hbx.cell 0
            have e1 := hbx.cell 1
            have e2 := hbx.cell 2
            simp only [List.getElem?_cons_zero, List.getElem?_cons_succ] at e0 e1 e2
            have h7 : b.eval (.tmp 7) = .pointer (some ⟨b3 + 1 + 1, 0, none⟩) := (hR.old (by decide) (by kernel_rfl)).trans rfl
            simp only [Act.eval, Array.getD_eq_getD_getElem?] at h7
            refine ⟨r, w2, ?_, ?_, ?_⟩
            · exact fun _ _ => rfl
            · show (execOp b.eval _).run _ _ = .ok (.value (.agg #[ur, uw, .int .u64 (f.turns : Int)])) _
              unfold execOp
              simp [go_sem, h7, e0, e1, e2]
            · exact hW.load (by rw [hs]; decide))
        · exact RhoOp.pure rfl (fun r L b w2 hl hR hW => by
            have hbx := hW.fr.holds H35.out (by omega)
            have e0 := hbx.cell 0
            have e1 := hbx.cell 1
            have e2 := hbx.cell 2
            simp only [List.getElem?_cons_zero, List.getElem?_cons_succ] at e0 e1 e2
            have h3 : b.eval (.tmp 3) = .pointer (some ⟨b3, 0, none⟩) := (hR.old (by decide) (by kernel_rfl)).trans rfl
            simp only [Act.eval, Array.getD_eq_getD_getElem?] at h3
            show (execOp b.eval _).run _ _ = .ok (.value (.agg #[vi, .slice (some ⟨gp, op, none⟩) np cp, vq])) _
            unfold execOp
            simp [go_sem, h3, e0, e1, e2]) (fun r L w2 hs h => h.pure (by decide) (by decide) (by decide) (by decide))
        · exact RhoOp.pure rfl (fun r L b w2 hl hR hW => by
            have h8 : b.eval (.tmp 8) = .slice (some ⟨gn, on, none⟩) z cn := (hR.old (by decide) (by kernel_rfl)).trans rfl
            simp only [Act.eval, Array.getD_eq_getD_getElem?] at h8
            show (execOp b.eval _).run _ _ = .ok (.value (.slice (some ⟨gn, on, none⟩) z cn)) _
            unfold execOp
            simp [go_sem, h8]) (fun r L w2 hs h => h.pure (by decide) (by decide) (by decide) (by decide))
        · exact RhoOp.pure rfl (fun r L b w2 hl hR hW => by
            have h8 : b.eval (.tmp 8) = .slice (some ⟨gn, on, none⟩) z cn := (hR.old (by decide) (by kernel_rfl)).trans rfl
            simp only [Act.eval, Array.getD_eq_getD_getElem?] at h8
            show (execOp b.eval _).run _ _ = .ok (.value (.slice (some ⟨gn, on, none⟩) z cn)) _
            unfold execOp
            simp [go_sem, h8]) (fun r L w2 hs h => h.pure (by decide) (by decide) (by decide) (by decide))
        · exact RhoOp.pure rfl (fun r L b w2 hl hR hW => by
            have h2 : b.eval (.tmp 2) = .int .i64 (k : Int) := (hR.old (by decide) (by kernel_rfl)).trans rfl
            simp only [Act.eval, Array.getD_eq_getD_getElem?] at h2
            show (execOp b.eval _).run _ _ = .ok (.value (.int .i64 (k : Int))) _
            unfold execOp
            simp [go_sem, h2]) (fun r L w2 hs h => h.pure (by decide) (by decide) (by decide) (by decide))
        · exact RhoOp.pure rfl (fun r L b w2 hl hR hW => by
            have h30 : b.eval (.tmp 30) = .slice (some ⟨gn, on, none⟩) z cn := hR.of (j := 3) (by decide) (by kernel_rfl)
            have h31 : b.eval (.tmp 31) = .int .i64 (k : Int) := hR.of (j := 4) (by decide) (by kernel_rfl)
            simp only [Act.eval, Array.getD_eq_getD_getElem?] at h30 h31
            show (execOp b.eval _).run _ _ = .ok (.value (.pointer (some ⟨gn, on + k * 4, none⟩))) _
            unfold execOp
            simp [go_sem, h30, h31, hi0k, hi2k]) (fun r L w2 hs h => h.pure (by decide) (by decide) (by decide) (by decide))
        · exact RhoOp.pure rfl (fun r L b w2 hl hR hW => by
            have e0 := HND.out w2 hW.fr 0 (by decide)
            have e1 := HND.out w2 hW.fr 1 (by decide)
            have e2 := HND.out w2 hW.fr 2 (by decide)
            have e3 := HND.out w2 hW.fr 3 (by decide)
            rw [Nat.add_zero] at e0
            simp only [List.getElem?_cons_zero, List.getElem?_cons_succ] at e0 e1 e2 e3
            have h32 : b.eval (.tmp 32) = .pointer (some ⟨gn, on + k * 4, none⟩) := hR.of (j := 5) (by decide) (by kernel_rfl)
            simp only [Act.eval, Array.getD_eq_getD_getElem?] at h32
            show (execOp b.eval _).run _ _ = .ok (.value (.agg #[.slice (some ⟨ga, oa, none⟩) K ac, .bool x.fin, .bool x.prog, .bool x.acc])) _
            unfold execOp
            simp [go_sem, h32, e0, e1, e2, e3]) (fun r L w2 hs h => h.pure (by decide) (by decide) (by decide) (by decide))
        · exact RhoOp.pure rfl (fun r L b w2 hl hR hW => by
            have hbx := hW.fr.holds H10.out HN10.out
            have e0 := hbx.cell 0
            have e1 := hbx.cell 1
            have e2 := hbx.cell 2
            have e3 := hbx.cell 3
            have e4 := hbx.cell 4
            have e5 := hbx.cell 5
            have e6 := hbx.cell 6
            have e7 := hbx.cell 7
            simp only [List.getElem?_cons_zero, List.getElem?_cons_succ] at e0 e1 e2 e3 e4 e5 e6 e7
            have h10 : b.eval (.tmp 10) = .pointer (some ⟨b10, 0, none⟩) := (hR.old (by decide) (by kernel_rfl)).trans rfl
            simp only [Act.eval, Array.getD_eq_getD_getElem?] at h10
            show (execOp b.eval _).run _ _ = .ok (.value (.agg #[.int .i64 d, .bool te, .int .i64 ob, .int .i64 va, .bool pu, .int .i64 so, .int .i64 st, .int .i64 bad])) _
            unfold execOp
            simp [go_sem, h10, e0, e1, e2, e3, e4, e5, e6, e7]) (fun r L w2 hs h => h.pure (by decide) (by decide) (by decide) (by decide))
        · exact RhoOp.call (f := 59) rfl (fun r L b w2 hs hl hR hW => by
            have h28 : b.eval (.tmp 28) = .agg #[vi, .slice (some ⟨gp, op, none⟩) np cp, vq] := hR.of (j := 1) (by decide) (by kernel_rfl)
            have h29 : b.eval (.tmp 29) = .slice (some ⟨gn, on, none⟩) z cn := hR.of (j := 2) (by decide) (by kernel_rfl)
            have h33 : b.eval (.tmp 33) = .agg #[.slice (some ⟨ga, oa, none⟩) K ac, .bool x.fin, .bool x.prog, .bool x.acc] := hR.of (j := 6) (by decide) (by kernel_rfl)
            have h34 : b.eval (.tmp 34) = .agg #[.int .i64 d, .bool te, .int .i64 ob, .int .i64 va, .bool pu, .int .i64 so, .int .i64 st, .int .i64 bad] := hR.of (j := 7) (by decide) (by kernel_rfl)
            simp only [Act.eval, Array.getD_eq_getD_getElem?] at h28 h29 h33 h34
            refine ⟨#[.agg #[vi, .slice (some ⟨gp, op, none⟩) np cp, vq], .slice (some ⟨gn, on, none⟩) z cn, .agg #[.slice (some ⟨ga, oa, none⟩) K ac, .bool x.fin, .bool x.prog, .bool x.acc], .agg #[.int .i64 d, .bool te, .int .i64 ob, .int .i64 va, .bool pu, .int .i64 so, .int .i64 st, .int .i64 bad]], ?_, ?_⟩
            · unfold execOp
              simp [go_sem, h28, h29, h33, h34]
            · refine (HFT.out w2 hW.fr).mono fun e w4 h => ?_
              obtain ⟨hb, v, he, vr, vw, rfl, h1, h2⟩ := h
              exact ⟨((vr, vw), r.2), fun j hj => match j, hj with | 8, hj => (by rw [hl] at hj; cases hj) | 0, _ => rfl | 1, _ => rfl | 2, _ => rfl | 3, _ => rfl | 4, _ => rfl | 5, _ => rfl | 6, _ => rfl | 7, _ => rfl | 9, _ => rfl | 10, _ => rfl | j + 11, _ => rfl, he, hW.call (by rw [hs]; decide) hl hb ⟨h1, h2⟩⟩)
        · exact RhoOp.call (f := 56) rfl (fun r L b w2 hs hl hR hW => by
            have h27 : b.eval (.tmp 27) = .agg #[ur, uw, .int .u64 (f.turns : Int)] := hR.of (j := 0) (by decide) (by kernel_rfl)
            have h35 : b.eval (.tmp 35) = .agg #[r.1.1, r.1.2, .int .u64 (g.turns : Int)] := hR.of (j := 8) (by decide) (by kernel_rfl)
            simp only [Act.eval, Array.getD_eq_getD_getElem?] at h27 h35
            refine ⟨#[.agg #[ur, uw, .int .u64 (f.turns : Int)], .agg #[r.1.1, r.1.2, .int .u64 (g.turns : Int)]], ?_, ?_⟩
            · unfold execOp
              simp [go_sem, h27, h35]
            · have h8 := hR.on (j := 8) (by kernel_rfl)
              have h0 := hR.on (j := 0) (by kernel_rfl)
              refine (HTG.out w2 r.1 hW.fr (hW.c h8)).mono fun e w4 h => ?_
              obtain ⟨hb, v, he, vr, vw, rfl, h1, h2⟩ := h
              exact ⟨(r.1, vr, vw), fun j hj => match j, hj with | 9, hj => (by rw [hl] at hj; cases hj) | 0, _ => rfl | 1, _ => rfl | 2, _ => rfl | 3, _ => rfl | 4, _ => rfl | 5, _ => rfl | 6, _ => rfl | 7, _ => rfl | 8, _ => rfl | 10, _ => rfl | j + 11, _ => rfl, he, hW.tog (by rw [hs]; decide) hl h8 h0 hb ⟨h1, h2⟩⟩)
        · exact RhoOp.store rfl rfl (fun r L b w2 hs hl hR hW => by
            have h9 := hR.on (j := 9) (by kernel_rfl)
            have q1 := (hW.t h9).1.cell1
            have q2 := (hW.t h9).2.cell1
            have hone : ([r.2.1, r.2.2, .int .u64 ((togP f g).turns : Int)] : List Value).all (·.oneCell') = true := by
              simp [q1, q2]
              simp [Value.oneCell']
            have hst := storeN (P := Try.prog) (ty := 25) (xs := [r.2.1, r.2.2, .int .u64 ((togP f g).turns : Int)]) (i := 0) (hW.old (.inr (.inr (.inr hl)))) (Nat.le_of_ble_eq_true rfl) foot_len hone
            have h36 : b.eval (.tmp 36) = .agg #[r.2.1, r.2.2, .int .u64 ((togP f g).turns : Int)] := hR.of (j := 9) (by decide) (by kernel_rfl)
            have h7 : b.eval (.tmp 7) = .pointer (some ⟨b3 + 1 + 1, 0, none⟩) := (hR.old (by decide) (by kernel_rfl)).trans rfl
            simp only [Act.eval, Array.getD_eq_getD_getElem?] at h36 h7
            refine ⟨r, setR w2 (b3 + 1 + 1) 0 [r.2.1, r.2.2, .int .u64 ((togP f g).turns : Int)], fun _ _ => rfl, ?_, ?_⟩
            · show (execOp b.eval _).run _ _ = .ok .skip _
              unfold execOp
              simp [Act.eval, h36, h7, Sem.run_bind, hst]
            · exact hW.store (by rw [hs]; decide) hl h9 rfl)
      · refine puts_as (ps := [(0, 27, .agg #[ur, uw, .int .u64 (f.turns : Int)]), (1, 28, .agg #[vi, .slice (some ⟨gp, op, none⟩) np cp, vq]), (2, 29, .slice (some ⟨gn, on, none⟩) z cn), (3, 30, .slice (some ⟨gn, on, none⟩) z cn), (4, 31, .int .i64 (k : Int)), (5, 32, .pointer (some ⟨gn, on + k * 4, none⟩)), (6, 33, .agg #[.slice (some ⟨ga, oa, none⟩) K ac, .bool x.fin, .bool x.prog, .bool x.acc]), (7, 34, .agg #[.int .i64 d, .bool te, .int .i64 ob, .int .i64 va, .bool pu, .int .i64 so, .int .i64 st, .int .i64 bad]), (8, 35, .agg #[r.1.1, r.1.2, .int .u64 (g.turns : Int)]), (9, 36, .agg #[r.2.1, r.2.2, .int .u64 ((togP f g).turns : Int)])]) rfl ?_
        simp only [puts, Act.put, List.setIfInBounds_toArray, List.set_cons_zero, List.set_cons_succ]
        obtain ⟨hf9, hx9, ht9⟩ := hW9.done (by decide) (by decide)
        have HFN : Hid (∃ f, BoxF w1 (b3 + 1 + 1) (b3 + 1 + 1 + 1) f w9 ∧ hereGo t lp x (x.arcs.drop (i + 1)) f = hereF t lp k ∧ BigF f (i + 1)) := by
          have h5 := HBF5.out.lt
          refine ⟨togP f g, ⟨HFR.out w9 hf9, ⟨r.2.1, r.2.2, hx9, ht9.1.mono (Wide.from h5.2), ht9.2.mono (Wide.from h5.2)⟩, h5.1, Nat.le_trans h5.2 hf9.size⟩, ?_, HBG.out.tog HGB.out⟩
          rw [← HGG.out]
          exact HST.out.symm
        clear hf9 hx9 ht9 hW9
        go_wp2
        refine ⟨⟨i + 1, by simp, by omega, HFN⟩, ?_⟩
        simp [intOf]
        omega
    · obtain rfl : i = K := by omega
      obtain ⟨f, hbf, hgo, hbig⟩ := HF.out
      rw [List.drop_of_length_le (by rw [HK.out]; exact Nat.le_refl _)] at hgo
      replace hgo : f = hereF t lp k := hgo
      subst hgo
      obtain ⟨ur, uw, k1, k2, k3⟩ := hbf.box
      have hf9 := hbf.fr
      have h5 := hbf.lt
      have HRG := Lib.hid (k1.range (i := 0) (n := 3) (xs := [ur, uw, .int .u64 ((hereF t lp k).turns : Int)]) rfl)
      have H69 := Lib.hid (hf9.holds H6.out (by omega))
      have hone : ([ur, uw, .int .u64 ((hereF t lp k).turns : Int)] : List Value).all (·.oneCell') = true := by simp [k2.cell1, k3.cell1]; simp [Value.oneCell']
      have hlo : w.heap.size ≤ b3 + 1 + 1 + 1 := by have := HBB.out; omega
      have HR2 := Lib.hid (k2.mono (Wide.from hlo))
      have HR3 := Lib.hid (k3.mono (Wide.from hlo))
      have HBW : Hid (Below w.heap.size w wr) := HB1.out.trans (hf9.to_below (B := w.heap.size) HB1.out.size fun q hq e => by have := HBB.out; have e : q = b3 + 1 + 1 := e; omega)
      have HK2 := Lib.hid k2
      have HK3 := Lib.hid k3
      clear hbf hbig k1 hf9 HF h5 hlo k2 k3
      go_wp2_with (first | (refine wpList_load_mid rfl 25 _ rfl (b3 + 1 + 1) 0 rfl [ur, uw, .int .u64 ((hereF t lp k).turns : Int)] _ HRG.out Try.underlying25 rfl foot_len ?_) | (refine wpList_storeB rfl 25 _ _ rfl (b3 + 1) 0 [ur, uw, .int .u64 ((hereF t lp k).turns : Int)] rfl rfl H69.out (Nat.le_of_ble_eq_true rfl) foot_len hone ?_))
      refine Named.mk (fun w9 hW9 => ?_)
      have hf9 : Fr (fun q => q = b3 + 1) wr w9 := by rw [hW9]; exact Fr.setRX _ _ 0 _
      have H9 := Lib.hid (H69.out.stored hW9 (Nat.le_of_ble_eq_true rfl))
      have HR4 := Lib.hid ((row_fr HK2.out hf9 (by omega)).mono (Wide.from (show w.heap.size ≤ b3 + 1 + 1 + 1 by have := HBB.out; omega)))
      have HR5 := Lib.hid ((row_fr HK3.out hf9 (by omega)).mono (Wide.from (show w.heap.size ≤ b3 + 1 + 1 + 1 by have := HBB.out; omega)))
      have HBZ : Hid (Below w.heap.size w w9) := HBW.out.trans (hf9.to_below HBW.out.size fun q hq e => by have := HBB.out; have e : q = b3 + 1 := e; omega)
      clear hW9 hf9 HK2 HK3 HR2 HR3
      go_wp2
      refine bodyPost_ret (outBox Try.results57 H9.out rfl _ Try.underlying25 rfl foot_len) rfl ?_
      exact ⟨HBZ.out, _, rfl, ur, uw, by simp, HR4.out, HR5.out⟩
end Go.Proofs.Ytcopoaaofjeklaa.G
