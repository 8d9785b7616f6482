/- The walk of net.OfThreads (printed by mktof.py). -/
import Derived.Test.YtcopoaaofjeklaaTck
import Derived.Test.YtcopoaaofjeklaaMa7
namespace Go.Proofs.Ytcopoaaofjeklaa.G
open Go.RowKit
set_option linter.unusedVariables false
set_option linter.unusedSimpArgs false

/-- A row of the callee's own. -/
def RowG (T : TypeId) (sz lo : Nat) (w : World) (v : Value) (n : Nat) (f : List Value) : Prop := (v = .slice none 0 0 ∨ w.ownsRow lo T sz v n f) ∧ RowL (From lo) w sz v n f
section
variable {T : TypeId} {sz lo : Nat} {w w' : World} {v : Value} {n : Nat} {f : List Value}
theorem RowG.below (h : RowG T sz lo w v n f) (hb : Below w.heap.size w w') : RowG T sz lo w' v n f := ⟨h.1.imp id fun h => owns_below h hb, h.2.up (Keep.below hb)⟩
theorem RowG.clone {b : Nat} (h : v = .slice none 0 0 ∨ w'.ownsRow w.heap.size T sz v n f) (h2 : RowL (From w.heap.size) w' sz v n f) (hb : b ≤ w.heap.size) : RowG T sz b w' v n f := ⟨h.imp id fun h => owns_wide h hb, h2.mono (Wide.from hb)⟩
theorem RowG.nil_of (h : RowL (From lo) w sz (.slice none 0 0) n f) {Q : Nat → Prop} {W : World} : RowL Q W sz (.slice none 0 0) n f := by
  obtain ⟨a, c, e, h2, h3, h4, h5, h6⟩ := h
  injection e with e1 e2 e3
  subst e1 e2 e3
  exact ⟨none, 0, rfl, h2, h3, h4, h5, fun h => by omega⟩
theorem RowG.of_fr {b : Nat} {t : TypeId} {cs : List Value} (h : RowG T sz lo w v n f) (hb : Holds w b t cs) (ht : T ≠ t) (hf : Fr (fun q => q = b) w w') : RowG T sz lo w' v n f := by
  rcases h.1 with rfl | ho
  · exact ⟨.inl rfl, RowG.nil_of h.2⟩
  · have ho2 := hf.owns ho fun g hg e => owns_ne_holds ho hb ht (by rw [hg, e])
    exact ⟨.inr ho2, RowL.of_owns ho2 fun _ h => h⟩
theorem RowG.row {b : Nat} {t : TypeId} {cs : List Value} (h : RowG T sz lo w v n f) (hb : Holds w b t cs) (ht : T ≠ t) : RowL (fun k => lo ≤ k ∧ k ≠ b) w sz v n f := by
  rcases h.1 with rfl | ho
  · exact RowG.nil_of h.2
  · exact RowL.of_owns2 ho fun g hg => ⟨owns_ge ho g hg, fun e => owns_ne_holds ho hb ht (by rw [hg, e])⟩
end
theorem sz_TArcs : (Try.prog.info? 59).map (·.size) = some 1 := by kernel_rfl
/-- What region 4 keeps. -/
structure TfW (wb : World) (t : PThr) (Q : Nat) (fq : List Value) (r : Value × Value × Nat) (L : Array Bool) (w2 : World) : Prop where
  below : Below wb.heap.size wb w2
  ints : L.getD 2 false = true → RowG 3 1 wb.heap.size w2 r.1 t.init.length (t.init.map intV)
  props : L.getD 5 false = true → RowG 56 2 wb.heap.size w2 r.2.1 Q fq
  box : L.getD 7 false = true → wb.heap.size ≤ r.2.2 ∧ Holds w2 r.2.2 31 (if L.getD 8 false then [r.1, .slice none 0 0, r.2.1] else [.slice none 0 0, .slice none 0 0, .slice none 0 0])
  o6 : L.getD 6 false = true → L.getD 2 false = true ∧ L.getD 5 false = true
  o8 : L.getD 8 false = true → L.getD 2 false = true ∧ L.getD 5 false = true ∧ L.getD 7 false = true
theorem TfW.pure {wb w2 : World} {t : PThr} {Q : Nat} {fq : List Value} {r : Value × Value × Nat} {L : Array Bool} (i : Nat) (h2 : i ≠ 2) (h5 : i ≠ 5) (h6 : i ≠ 6) (h7 : i ≠ 7) (h8 : i ≠ 8) (h : TfW wb t Q fq r L w2) : TfW wb t Q fq r (L.setIfInBounds i true) w2 := by
  refine ⟨h.below, ?_, ?_, ?_, ?_, ?_⟩
  · rw [gd_ne h2.symm]; exact h.ints
  · rw [gd_ne h5.symm]; exact h.props
  · rw [gd_ne h7.symm, gd_ne h8.symm]; exact h.box
  · rw [gd_ne h2.symm, gd_ne h5.symm, gd_ne h6.symm]; exact h.o6
  · rw [gd_ne h2.symm, gd_ne h5.symm, gd_ne h7.symm, gd_ne h8.symm]; exact h.o8
/-- A process's nodes in a box of their own, whose ways lie elsewhere. -/
def InT (R : Nat → Prop) (g z : Nat) (lp : List TNode) (W : World) : Prop := ∃ cs, Holds W g 61 cs ∧ z * 4 ≤ cs.length ∧ ∀ (j : Nat) (h : j < lp.length), TNodeF (fun k => k ≠ g ∧ R k) W lp[j] (cut 4 j cs)
theorem InT.below {R : Nat → Prop} {g z : Nat} {lp : List TNode} {W W' : World} (h : InT R g z lp W) (hb : Below W.heap.size W W') : InT R g z lp W' := by
  obtain ⟨cs, h1, h2, h3⟩ := h
  exact ⟨cs, h1.belowAll hb, h2, fun j hj => (h3 j hj).up (Keep.below hb)⟩
theorem InT.set {R : Nat → Prop} {g z i : Nat} {lp : List TNode} {W W' : World} {v : Value} {fa : List Value} (h : InT R g z lp W) (hi : i < lp.length) (hv : RowL (fun k => k ≠ g ∧ R k) W 8 v lp[i].arcs.length fa) (hfa : LsF TArcF (fun k => k ≠ g ∧ R k) W lp[i].arcs fa) (hW : W' = W.setCell ⟨g, i * 4, none⟩ v) : InT R g z lp W' := by
  obtain ⟨cs, h1, h2, h3⟩ := h
  have hk : Keep (fun k => k ≠ g ∧ R k) W W' := by rw [hW]; exact keep_set (by simp)
  refine ⟨cs.set (i * 4) v, by rw [hW]; exact h1.put _ _, by simpa using h2, fun j hj => ?_⟩
  by_cases e : j = i
  · subst e
    have e2 := cut_self (m := 4) (i := j) (q := 0) (cs := cs) (v := v) (by omega)
    rw [Nat.add_zero] at e2
    obtain ⟨va, f0, hc, _, _⟩ := h3 j hj
    rw [e2, hc]
    exact ⟨v, fa, rfl, hv.up hk, LsF.up (fun _ _ => oneTArc.up hk) _ hfa⟩
  · have e2 := cut_set (m := 4) (j := j) (i := i) (q := 0) (cs := cs) (v := v) (by omega) e
    rw [Nat.add_zero] at e2
    rw [e2]
    exact (h3 j hj).up hk
theorem InT.proc {R : Nat → Prop} {g z cap : Nat} {lp : List TNode} {W : World} (h : InT R g z lp W) (hz : lp.length = z) (hc : z ≤ cap) (hc2 : cap ≤ 9223372036854775807) (hR : R g) : TProcF R W lp [.slice (some ⟨g, 0, none⟩) z cap] := by
  obtain ⟨cs, h1, h2, h3⟩ := h
  refine ⟨_, cs.take (z * 4), rfl, ?_, ?_⟩
  · rw [hz]
    exact ⟨_, cap, rfl, hc, hc2, by rw [List.length_take]; omega, (fun h => by cases h), fun _ => ⟨g, 0, cs, _, rfl, hR, h1.r, fun j hj => by rw [Nat.zero_add, List.getElem?_take_of_lt hj]⟩⟩
  · rw [← hz]
    exact LsF.of_cut lp cs fun j hj => (h3 j hj).mono fun k hk _ => hk.2
theorem info_tsl : (Try.prog.info? 57).map (fun i => (i.zero.map fun z => z.cells.size, i.size, i.bytes)) = some (some 1, 1, 24) := by kernel_rfl
theorem sz_TProcs : (Try.prog.info? 28).map (·.size) = some 1 := by kernel_rfl
/-- What the outer loop keeps. -/
structure OutT (b5 lo : Nat) (P : Nat → Prop) (w0 W : World) (vo ui uq : Value) (pre : List (List TNode)) (t : PThr) : Prop where
  ge : lo ≤ b5
  below : Below lo w0 W
  box : Holds W b5 31 [ui, vo, uq]
  row : ∃ fo, W.ownsRow lo 57 1 vo pre.length fo ∧ LsF TProcF P W pre fo
  init : RowL P W 1 ui t.init.length (t.init.map intV)
  props : ∃ f, RowL P W 2 uq t.props.length f ∧ LsF TPropF P W t.props f
  far : ∀ k, P k → k ≠ b5 ∧ vo.ownBlock ≠ some k
section
variable {b5 lo : Nat} {P : Nat → Prop} {w0 W W' : World} {vo ui uq : Value} {pre : List (List TNode)} {t : PThr}
theorem OutT.fr {F : Nat → Prop} (h : OutT b5 lo P w0 W vo ui uq pre t) (hf : Fr F W W') (hF : ∀ k, F k → lo ≤ k ∧ k ≠ b5 ∧ vo.ownBlock ≠ some k ∧ ¬ P k) : OutT b5 lo P w0 W' vo ui uq pre t := by
  obtain ⟨fo, h1, h2⟩ := h.row
  obtain ⟨fq, h3, h4⟩ := h.props
  have hk : Keep P W W' := fun k hk hs => hf.block k hs fun e => (hF k e).2.2.2 hk
  have hlt := h.box.lt
  have hge := h.ge
  exact ⟨h.ge, h.below.trans (hf.to_below (by omega) fun k hk hFk => by have := (hF k hFk).1; omega), hf.holds h.box fun e => (hF _ e).2.1 rfl, ⟨fo, hf.owns h1 fun g hg e => (hF g e).2.2.1 hg, LsF.up (fun _ _ => oneTProc.up hk) _ h2⟩, h.init.up hk, ⟨fq, h3.up hk, LsF.up (fun _ _ => oneTProp.up hk) _ h4⟩, h.far⟩
theorem OutT.fresh (h : OutT b5 lo P w0 W vo ui uq pre t) (hb : Below W.heap.size W W') : OutT b5 lo P w0 W' vo ui uq pre t := h.fr (Fr.of_below hb (fun _ => False)) fun _ h => h.elim
theorem OutT.shrink (h : OutT b5 lo P w0 W vo ui uq pre t) : OutT b5 lo (fun k => P k ∧ k < W.heap.size) w0 W vo ui uq pre t := by
  obtain ⟨fo, h1, h2⟩ := h.row
  obtain ⟨fq, h3, h4⟩ := h.props
  exact ⟨h.ge, h.below, h.box, ⟨fo, h1, LsF.mono (fun _ _ => TProcF.mono Wide.in_) _ h2⟩, h.init.mono Wide.in_, ⟨fq, h3.mono Wide.in_, LsF.mono (fun _ _ => TPropF.mono Wide.in_) _ h4⟩, fun k hk => h.far k hk.1⟩
theorem OutT.app {Q : Nat → Prop} {lp : List TNode} {v2 vo' : Value} {fo : List Value} {W4 W5 : World} {o : Obj} (h : OutT b5 lo P w0 W vo ui uq pre t) (hrow : W.ownsRow lo 57 1 vo pre.length fo) (hfo : LsF TProcF P W pre fo) (hp : TProcF Q W lp [v2]) (hQ : ∀ k, Q k → k ≠ b5 ∧ vo.ownBlock ≠ some k)
    (hown : W4.ownsRow lo 57 1 vo' (pre.length + 1) (fo ++ [v2])) (hgr : (W.alloc o).grownBy W4 vo.ownBlock) (hblk : vo'.ownBlock = vo.ownBlock ∨ vo'.ownBlock = some (W.alloc o).heap.size) (hW5 : W5 = setR W4 b5 1 [vo']) :
    OutT b5 lo (fun k => (P k ∨ Q k) ∧ k < W.heap.size) w0 W5 vo' ui uq (pre ++ [lp]) t := by
  obtain ⟨fq, h3, h4⟩ := h.props
  have hs2 : W.heap.size ≤ (W.alloc o).heap.size := by simp
  have hf4 : Fr (fun q => q = b5 ∨ vo.ownBlock = some q) W W4 := ((Fr.refl _ W).alloc o).grown hgr fun q hq _ => .inr hq
  have hf5 : Fr (fun q => q = b5) W4 W5 := by rw [hW5]; exact Fr.setRX _ _ 1 _
  have hf : Fr (fun q => q = b5 ∨ vo.ownBlock = some q) W W5 := hf4.trans hf5 fun q _ hq => .inl hq
  have hb4 : Holds W4 b5 31 [ui, vo, uq] := (h.box.alloc o).of_eq (hgr.block _ (h.box.alloc o).lt fun he => owns_ne_holds hrow h.box (by decide) he.symm)
  have hb5 : Holds W5 b5 31 [ui, vo', uq] := hb4.stored hW5 (Nat.le_of_ble_eq_true rfl)
  have hPQ : ∀ k, (P k ∨ Q k) → ¬ (k = b5 ∨ vo.ownBlock = some k) := fun k hk hor => by
    have h1 : k ≠ b5 ∧ vo.ownBlock ≠ some k := hk.elim (h.far k) (hQ k)
    exact hor.elim h1.1 h1.2
  have hkp : Keep (fun k => (P k ∨ Q k) ∧ k < W.heap.size) W W5 := fun k hk hs => hf.block k hs (hPQ k hk.1)
  have hwp : Wide P (fun k => (P k ∨ Q k) ∧ k < W.heap.size) W := fun k hk hs => ⟨.inl hk, hs⟩
  have hwq : Wide Q (fun k => (P k ∨ Q k) ∧ k < W.heap.size) W := fun k hk hs => ⟨.inr hk, hs⟩
  have hlt := h.box.lt
  have hge := h.ge
  have hog := owns_ge hrow
  refine ⟨h.ge, h.below.trans (hf.to_below (by omega) fun k hk hor => ?_), hb5, ⟨fo ++ [v2], by rw [List.length_append]; exact hf5.owns hown fun g hg e => owns_ne_holds hown hb4 (by decide) (by rw [hg, e]), LsF.up (fun _ _ => oneTProc.up hkp) _ (LsF.append (LsF.mono (fun _ _ => TProcF.mono hwp) _ hfo) (LsF.sing (TProcF.mono hwq hp)))⟩, (h.init.mono hwp).up hkp, ⟨fq, (h3.mono hwp).up hkp, LsF.up (fun _ _ => oneTProp.up hkp) _ (LsF.mono (fun _ _ => TPropF.mono hwp) _ h4)⟩, fun k hk => ⟨fun e => hPQ k hk.1 (.inl e), fun e => ?_⟩⟩
  · rcases hor with rfl | hor
    · omega
    · have := hog k hor; omega
  · rcases hblk with hb | hb
    · rw [hb] at e; exact hPQ k hk.1 (.inr e)
    · rw [hb] at e; injection e with e; have := hk.2; omega
end
def TOfPost (t : PThr) (w : World) (e : Ending) (w' : World) : Prop := Below w.heap.size w w' ∧ ((∃ ui up uq, e = .returned (.tuple #[.iface 66 (.agg #[ui, up, uq]), .int .i64 0]) ∧ OkT t ∧ ThrV (fun _ => True) w' ui up uq t) ∨ e = .returned (.tuple #[.nilIface, .int .i64 150]) ∧ ¬ GoodT t)
/-- The walk stands still here. -/
structure Halt (p : Prop) : Prop where
  out : p
theorem halt_call2' {P : Program} {ops : Array Oper} {Q : Exit → Act → World → Prop} {a : Act} {w : World} {rest : List Oper} {o : Oper} (c : Call) (ho : o.op = .call c) (h : Halt (wpList P ops Q (o :: rest) a w)) : wpList P ops Q (o :: rest) a w := h.out
set_option maxHeartbeats 4000000 in
set_option maxRecDepth 100000 in
theorem ofTFn {P : Nat → Prop} {w : World} {t : PThr} {vi vp vq : Value} (h : ThrV P w vi vp vq t) (hs : SmallT t) : Calls Try.prog 8 #[.agg #[vi, vp, vq]] w (TOfPost t w) := by
  have h := h.mono (Q := fun q => q < w.heap.size) fun q _ hq => hq
  obtain ⟨w1, hw1⟩ : ∃ W, W = w.alloc (.cells #[vi, vp, vq] 31) := ⟨_, rfl⟩
  have hb1 : Below w.heap.size w w1 := by rw [hw1]; exact (Below.refl _ _).alloc (Nat.le_refl _) _
  have h1 : Holds w1 w.heap.size 31 [vi, vp, vq] := by rw [hw1]; exact Holds.new w 31 #[vi, vp, vq]
  have hv1 := h.up (Keep.below hb1)
  have HCK := Lib.hid (checkTFn hv1 hs)
  have HV1 := Lib.hid hv1
  have HB1 := Lib.hid hb1
  have HS := Lib.hid hs
  have H1 := Lib.hid h1
  have HRG := Lib.hid (h1.range (i := 0) (n := 3) (xs := [vi, vp, vq]) rfl)
  have c1 : vi.oneCell' = true := h.init.cell1
  have c2 : vp.oneCell' = true := by obtain ⟨_, k, _⟩ := h.procs; exact k.cell1
  have c3 : vq.oneCell' = true := by obtain ⟨_, k, _⟩ := h.props; exact k.cell1
  clear h hs hb1 h1 hv1
  go_enter Try.func8, Try.ntmps8
  go_upto_region 1 with (fail)
  rw [← hw1]
  clear hw1
  obtain ⟨b1, hb1⟩ : ∃ b, w.heap.size = b := ⟨_, rfl⟩
  have HBW := Lib.hid hb1
  rw [hb1] at H1 HRG ⊢
  clear hb1
  go_wp2_with (refine wpList_load_mid rfl 31 _ rfl b1 0 rfl [vi, vp, vq] _ HRG.out Try.underlying31 rfl sz_Thrs ?_)
  refine HCK.out.mono ?_
  rintro e wb ⟨hb2, c, rfl, hok, hc⟩
  have HB2 : Hid (Below w.heap.size w wb) := HB1.out.trans (hb2.mono HB1.out.size)
  have HV2 := HV1.out.up (Keep.below hb2)
  have H1b := Lib.hid (H1.out.belowAll hb2)
  rcases hc with rfl | ⟨rfl, hng⟩
  · have HOK := Lib.hid (hok rfl)
    clear HCK hok hb2 H1 HRG HV1 c1 c2 c3
    obtain ⟨fp, p1, p2⟩ := HV2.procs
    obtain ⟨fq, q1, q2⟩ := HV2.props
    have i1 := HV2.init
    obtain ⟨ai, ci, rfl, _, _, _⟩ := i1.form
    obtain ⟨ap, cp, rfl, _, _, _⟩ := p1.form
    obtain ⟨aq, cq, rfl, _, _, _⟩ := q1.form
    obtain ⟨N, hN⟩ : ∃ n, t.init.length = n := ⟨_, rfl⟩
    obtain ⟨M, hM⟩ : ∃ n, t.procs.length = n := ⟨_, rfl⟩
    obtain ⟨Q, hQ⟩ : ∃ n, t.props.length = n := ⟨_, rfl⟩
    have HNN := Lib.hid hN
    have HMM := Lib.hid hM
    have HQQ := Lib.hid hQ
    have HNL : Hid (t.init.length ≤ 2000000) := HS.out.init
    have HQL : Hid (Q ≤ 2000000) := by show _ ≤ _; rw [← hQ]; exact HS.out.props
    have HQO : Hid (∀ u ∈ fq, u.oneCell' = true) := LsF.one oneTProp _ q2
    have HI : Hid (RowL (fun q => q < w.heap.size) wb 1 (.slice ai N ci) t.init.length (t.init.map intV)) := by rw [← hN]; exact i1
    have HQ1 : Hid (RowL (fun q => q < w.heap.size) wb 2 (.slice aq Q cq) Q fq) := by rw [← hQ]; exact q1
    have HQ2 := Lib.hid q2
    have HP1 := Lib.hid p1
    have HP2 := Lib.hid p2
    have l8 := HOK.out.len.2.1
    rw [hN, hM, hQ] at H1b
    rw [hM] at l8
    have H1 := H1b
    rw [hN, hM, hQ]
    clear HV2 i1 p1 p2 q1 q2 hN hM hQ
    go_wp2
    refine wp_region_rho (fun (r : Value × Value × Nat) j => ([(.pointer (some ⟨b1, 0, none⟩)), (.slice ai N ci), (r.1), (.pointer (some ⟨b1, 2, none⟩)), (.slice aq Q cq), (r.2.1), (.agg #[r.1, .slice none 0 0, r.2.1]), (.pointer (some ⟨r.2.2, 0, none⟩)), (undef)] : List Value).getD j undef) (fun r L W => TfW wb t Q fq r L W) [(0, 14), (1, 15), (2, 16), (3, 17), (4, 18), (5, 19), (6, 20), (7, 5)] 56 rfl (by kernel_rfl) (by kernel_rfl) (by kernel_rfl) (.slice none 0 0, .slice none 0 0, 0) ⟨(Fr.refl (fun _ => False) wb).drew.to_below (Nat.le_refl _) (fun _ _ h => h), (fun h => by simp at h), (fun h => by simp at h), (fun h => by simp at h), (fun h => by simp at h), (fun h => by simp at h)⟩ (fun i hi => ?_) (fun r w9 hW9 => ?_)
    · have hi2 : i < 9 := hi
      clear hi
      have hi3 : i = 0 ∨ i = 1 ∨ i = 2 ∨ i = 3 ∨ i = 4 ∨ i = 5 ∨ i = 6 ∨ i = 7 ∨ i = 8 := by omega
      clear hi2
      rcases hi3 with rfl | rfl | rfl | rfl | rfl | rfl | rfl | rfl | rfl
      · exact RhoOp.pure rfl (fun r L b w2 hl hR hW => by
          have h1 : b.eval (.tmp 1) = .pointer (some ⟨b1, 0, none⟩) := (hR.old (by decide) (by kernel_rfl)).trans rfl
          simp only [Act.eval, Array.getD_eq_getD_getElem?] at h1
          show (execOp b.eval _).run _ _ = .ok (.value (.pointer (some ⟨b1, 0, none⟩))) _
          unfold execOp
          simp [go_sem, h1]) (fun r L W hs h => h.pure 0 (by decide) (by decide) (by decide) (by decide) (by decide))
      · exact RhoOp.pure rfl (fun r L b w2 hl hR hW => by
          have e : w2.cell? ⟨b1, 0, none⟩ = some (.slice ai N ci) := ((H1.out.belowAll hW.below).cell 0).trans rfl
          have h14 : b.eval (.tmp 14) = .pointer (some ⟨b1, 0, none⟩) := hR.of (j := 0) (by decide) (by kernel_rfl)
          simp only [Act.eval, Array.getD_eq_getD_getElem?] at h14
          show (execOp b.eval _).run _ _ = .ok (.value (.slice ai N ci)) _
          unfold execOp
          simp [go_sem, h14, e]) (fun r L W hs h => h.pure 1 (by decide) (by decide) (by decide) (by decide) (by decide))
      · exact RhoOp.call (f := 17) rfl (fun r L b w2 hs hl hR hW => by
          have h15 : b.eval (.tmp 15) = .slice ai N ci := hR.of (j := 1) (by decide) (by kernel_rfl)
          simp only [Act.eval, Array.getD_eq_getD_getElem?] at h15
          refine ⟨#[.slice ai N ci], ?_, ?_⟩
          · unfold execOp
            simp [go_sem, h15]
          · have h8 : L.getD 8 false = false := by
              cases hq : L.getD 8 false with
              | false => rfl
              | true => have := (hW.o8 hq).1; rw [hl] at this; cases this
            refine (cloneIntsFn (HI.out.up (Keep.below hW.below)) (ints_one _) HNL.out).mono fun e w4 h => ?_
            obtain ⟨hb, v, he, hv1, hv2⟩ := h
            refine ⟨(v, r.2), fun j hj => ?_, he, ⟨hW.below.trans (hb.mono hW.below.size), ?_, ?_, ?_, ?_, ?_⟩⟩
            · match j, hj with
              | 2, hj => rw [hl] at hj; cases hj
              | 0, _ => rfl
              | 1, _ => rfl
              | 3, _ => rfl
              | 4, _ => rfl
              | 5, _ => rfl
              | 6, hj => have := (hW.o6 hj).1; rw [hl] at this; cases this
              | 7, _ => rfl
              | 8, _ => rfl
              | j + 9, _ => rfl
            · exact fun _ => RowG.clone hv1 hv2 hW.below.size
            · intro q
              rw [gd_ne (by decide)] at q
              exact (hW.props q).below hb
            · intro q
              rw [gd_ne (by decide)] at q
              obtain ⟨q1, q2⟩ := hW.box q
              refine ⟨q1, ?_⟩
              rw [gd_ne (by decide), h8]
              rw [h8] at q2
              exact q2.belowAll hb
            · intro q
              rw [gd_ne (by decide)] at q
              obtain ⟨q1, q2⟩ := hW.o6 q
              exact ⟨by first | (rw [gd_ne (by decide)]; exact q1) | exact gd_eq (by rw [hs]; decide), by first | (rw [gd_ne (by decide)]; exact q2) | exact gd_eq (by rw [hs]; decide)⟩
            · intro q
              rw [gd_ne (by decide), h8] at q; cases q)
      · exact RhoOp.pure rfl (fun r L b w2 hl hR hW => by
          have h1 : b.eval (.tmp 1) = .pointer (some ⟨b1, 0, none⟩) := (hR.old (by decide) (by kernel_rfl)).trans rfl
          simp only [Act.eval, Array.getD_eq_getD_getElem?] at h1
          show (execOp b.eval _).run _ _ = .ok (.value (.pointer (some ⟨b1, 2, none⟩))) _
          unfold execOp
          simp [go_sem, h1]) (fun r L W hs h => h.pure 3 (by decide) (by decide) (by decide) (by decide) (by decide))
      · exact RhoOp.pure rfl (fun r L b w2 hl hR hW => by
          have e : w2.cell? ⟨b1, 2, none⟩ = some (.slice aq Q cq) := ((H1.out.belowAll hW.below).cell 2).trans rfl
          have h17 : b.eval (.tmp 17) = .pointer (some ⟨b1, 2, none⟩) := hR.of (j := 3) (by decide) (by kernel_rfl)
          simp only [Act.eval, Array.getD_eq_getD_getElem?] at h17
          show (execOp b.eval _).run _ _ = .ok (.value (.slice aq Q cq)) _
          unfold execOp
          simp [go_sem, h17, e]) (fun r L W hs h => h.pure 4 (by decide) (by decide) (by decide) (by decide) (by decide))
      · exact RhoOp.call (f := 18) rfl (fun r L b w2 hs hl hR hW => by
          have h18 : b.eval (.tmp 18) = .slice aq Q cq := hR.of (j := 4) (by decide) (by kernel_rfl)
          simp only [Act.eval, Array.getD_eq_getD_getElem?] at h18
          refine ⟨#[.slice aq Q cq], ?_, ?_⟩
          · unfold execOp
            simp [go_sem, h18]
          · have h8 : L.getD 8 false = false := by
              cases hq : L.getD 8 false with
              | false => rfl
              | true => have := (hW.o8 hq).2.1; rw [hl] at this; cases this
            refine (cloneTPropsFn (HQ1.out.up (Keep.below hW.below)) HQO.out HQL.out).mono fun e w4 h => ?_
            obtain ⟨hb, v, he, hv1, hv2⟩ := h
            refine ⟨(r.1, v, r.2.2), fun j hj => ?_, he, ⟨hW.below.trans (hb.mono hW.below.size), ?_, ?_, ?_, ?_, ?_⟩⟩
            · match j, hj with
              | 5, hj => rw [hl] at hj; cases hj
              | 0, _ => rfl
              | 1, _ => rfl
              | 2, _ => rfl
              | 3, _ => rfl
              | 4, _ => rfl
              | 6, hj => have := (hW.o6 hj).2; rw [hl] at this; cases this
              | 7, _ => rfl
              | 8, _ => rfl
              | j + 9, _ => rfl
            · intro q
              rw [gd_ne (by decide)] at q
              exact (hW.ints q).below hb
            · exact fun _ => RowG.clone hv1 hv2 hW.below.size
            · intro q
              rw [gd_ne (by decide)] at q
              obtain ⟨q1, q2⟩ := hW.box q
              refine ⟨q1, ?_⟩
              rw [gd_ne (by decide), h8]
              rw [h8] at q2
              exact q2.belowAll hb
            · intro q
              rw [gd_ne (by decide)] at q
              obtain ⟨q1, q2⟩ := hW.o6 q
              exact ⟨by first | (rw [gd_ne (by decide)]; exact q1) | exact gd_eq (by rw [hs]; decide), by first | (rw [gd_ne (by decide)]; exact q2) | exact gd_eq (by rw [hs]; decide)⟩
            · intro q
              rw [gd_ne (by decide), h8] at q; cases q)
      · exact RhoOp.make rfl (fun r L b w2 hs hl hR hW => by
          have h2 := hR.on (j := 2) (by kernel_rfl)
          have h5 := hR.on (j := 5) (by kernel_rfl)
          obtain ⟨a1, c1, e1, _⟩ := (hW.ints h2).2.form
          obtain ⟨a2, c2, e2, _⟩ := (hW.props h5).2.form
          have h16 : b.eval (.tmp 16) = r.1 := hR.of (j := 2) (by decide) (by kernel_rfl)
          have h19 : b.eval (.tmp 19) = r.2.1 := hR.of (j := 5) (by decide) (by kernel_rfl)
          simp only [Act.eval, Array.getD_eq_getD_getElem?] at h16 h19
          refine ⟨r, w2, ?_, ?_, ?_⟩
          · exact fun _ _ => rfl
          · show (execOp b.eval _).run _ _ = .ok (.value (.agg #[(r).1, .slice none 0 0, (r).2.1])) _
            unfold execOp
            simp [go_sem, h16, h19, e1, e2]
          · refine ⟨hW.below, ?_, ?_, ?_, ?_, ?_⟩
            · rw [gd_ne (by decide)]; exact hW.ints
            · rw [gd_ne (by decide)]; exact hW.props
            · rw [gd_ne (by decide), gd_ne (by decide)]; exact hW.box
            · intro _
              rw [gd_ne (by decide), gd_ne (by decide)]
              exact ⟨h2, h5⟩
            · rw [gd_ne (by decide), gd_ne (by decide), gd_ne (by decide), gd_ne (by decide)]; exact hW.o8)
      · exact RhoOp.make rfl (fun r L b w2 hs hl hR hW => by
          refine ⟨(r.1, r.2.1, w2.heap.size), w2.alloc (.cells #[.slice none 0 0, .slice none 0 0, .slice none 0 0] 31), ?_, ?_, ?_⟩
          · exact fun j hj => match j, hj with | 7, hj => (by rw [hl] at hj; cases hj) | 0, _ => rfl | 1, _ => rfl | 2, _ => rfl | 3, _ => rfl | 4, _ => rfl | 5, _ => rfl | 6, _ => rfl | 8, _ => rfl | j + 9, _ => rfl
          · show (execOp b.eval _).run _ _ = .ok (.value (.pointer (some ⟨((r.1, r.2.1, w2.heap.size)).2.2, 0, none⟩))) _
            unfold execOp
            simp [go_sem, ]
          · have hb : Below w2.heap.size w2 (w2.alloc (.cells #[.slice none 0 0, .slice none 0 0, .slice none 0 0] 31)) := (Below.refl _ _).alloc (Nat.le_refl _) _
            have h8 : L.getD 8 false = false := by
              cases hq : L.getD 8 false with
              | false => rfl
              | true => have := (hW.o8 hq).2.2; rw [hl] at this; cases this
            refine ⟨hW.below.trans (hb.mono hW.below.size), ?_, ?_, ?_, ?_, ?_⟩
            · intro q
              rw [gd_ne (by decide)] at q
              exact (hW.ints q).below hb
            · intro q
              rw [gd_ne (by decide)] at q
              exact (hW.props q).below hb
            · intro _
              refine ⟨hW.below.size, ?_⟩
              rw [gd_ne (by decide), h8]
              exact Holds.new w2 31 #[.slice none 0 0, .slice none 0 0, .slice none 0 0]
            · rw [gd_ne (by decide), gd_ne (by decide), gd_ne (by decide)]; exact hW.o6
            · intro q
              rw [gd_ne (by decide), h8] at q; cases q)
      · exact RhoOp.store rfl rfl (fun r L b w2 hs hl hR hW => by
          have h2 := hR.on (j := 2) (by kernel_rfl)
          have h5' := hR.on (j := 5) (by kernel_rfl)
          have h7 := hR.on (j := 7) (by kernel_rfl)
          obtain ⟨hge, hbx⟩ := hW.box h7
          rw [hl] at hbx
          have hone : ([r.1, .slice none 0 0, r.2.1] : List Value).all (·.oneCell') = true := by
            have q1 := (hW.ints h2).2.cell1
            have q2 := (hW.props h5').2.cell1
            simp [q1, q2]
            simp [Value.oneCell']
          have hst := storeN (P := Try.prog) (ty := 31) (xs := [r.1, .slice none 0 0, r.2.1]) (i := 0) hbx (Nat.le_of_ble_eq_true rfl) sz_Thrs hone
          have h5 : b.eval (.tmp 5) = .pointer (some ⟨r.2.2, 0, none⟩) := hR.of (j := 7) (by decide) (by kernel_rfl)
          have h20 : b.eval (.tmp 20) = .agg #[r.1, .slice none 0 0, r.2.1] := hR.of (j := 6) (by decide) (by kernel_rfl)
          simp only [Act.eval, Array.getD_eq_getD_getElem?] at h5 h20
          refine ⟨r, setR w2 r.2.2 0 [r.1, .slice none 0 0, r.2.1], fun _ _ => rfl, ?_, ?_⟩
          · show (execOp b.eval _).run _ _ = .ok .skip _
            unfold execOp
            simp [Act.eval, h5, h20, Sem.run_bind, hst]
          · have hfr := Fr.setRX r.2.2 [r.1, .slice none 0 0, r.2.1] 0 w2
            refine ⟨hW.below.trans (hfr.to_below hW.below.size fun q hq e => by omega), ?_, ?_, ?_, ?_, ?_⟩
            · intro _
              exact (hW.ints h2).of_fr hbx (by decide) hfr
            · intro _
              exact (hW.props h5').of_fr hbx (by decide) hfr
            · intro _
              refine ⟨hge, ?_⟩
              rw [gd_eq (by rw [hs]; decide), if_pos rfl]
              have := hbx.stored (W' := setR w2 r.2.2 0 [r.1, .slice none 0 0, r.2.1]) rfl (Nat.le_of_ble_eq_true rfl)
              exact this
            · rw [gd_ne (by decide), gd_ne (by decide), gd_ne (by decide)]; exact hW.o6
            · intro _
              refine ⟨?_, ?_, ?_⟩ <;> rw [gd_ne (by decide)] <;> first | exact h2 | exact h5' | exact h7)
    · refine puts_as (ps := [(0, 14, .pointer (some ⟨b1, 0, none⟩)), (1, 15, .slice ai N ci), (2, 16, r.1), (3, 17, .pointer (some ⟨b1, 2, none⟩)), (4, 18, .slice aq Q cq), (5, 19, r.2.1), (6, 20, .agg #[r.1, .slice none 0 0, r.2.1]), (7, 5, .pointer (some ⟨r.2.2, 0, none⟩))]) rfl ?_
      simp only [puts, Act.put, List.setIfInBounds_toArray, List.set_cons_zero, List.set_cons_succ]
      obtain ⟨hbb, hints, hprops, hbox, -, -⟩ := hW9
      obtain ⟨ui, uq, b5⟩ := r
      have hints := hints rfl
      have hprops := hprops rfl
      obtain ⟨hge5, hbox⟩ := hbox rfl
      replace hge5 : wb.heap.size ≤ b5 := hge5
      replace hbox : Holds w9 b5 31 [ui, .slice none 0 0, uq] := hbox
      have HB9 : Hid (Below w.heap.size w w9) := HB2.out.trans (hbb.mono HB2.out.size)
      have hq9 := LsF.up (fun _ _ => oneTProp.up (Keep.below hbb)) _ HQ2.out
      have HOT : Hid (OutT b5 w.heap.size (fun k => k ≠ b5) w w9 (.slice none 0 0) ui uq [] t) := ⟨Nat.le_trans HB2.out.size hge5, HB9.out, hbox, ⟨[], World.ownsRow_nil _ _ _ _, rfl⟩, (hints.row hbox (by decide)).mono fun k hk _ => hk.2, ⟨fq, by rw [HQQ.out]; exact (hprops.row hbox (by decide)).mono fun k hk _ => hk.2, LsF.mono (fun _ _ => TPropF.mono fun k hk _ => by have h3 : k < w.heap.size := hk; have := HB2.out.size; show k ≠ b5; omega) _ hq9⟩, fun k hk => ⟨hk, by simp [Value.ownBlock]⟩⟩
      have HP19 := Lib.hid (HP1.out.up (Keep.below hbb))
      have HP29 := Lib.hid (LsF.up (fun _ _ => oneTProc.up (Keep.below hbb)) _ HP2.out)
      have e19 := (H1.out.belowAll hbb).cell 1
      simp only [List.getElem?_cons_zero, List.getElem?_cons_succ] at e19
      have HG5 : Hid (w.heap.size ≤ b5) := Nat.le_trans HB2.out.size hge5
      have hb59 : b5 < w9.heap.size := hbox.lt
      have HL59 := Lib.hid hb59
      clear hbb hints hprops hge5 hbox hq9 hb59 HQ1 HQ2 HI HP1 HP2 H1b
      go_wp2
      go_loopw [24] (fun x W => ∃ (p : Nat) (vo : Value) (P2 : Nat → Prop), x = .int .i64 (p : Int) ∧ p ≤ M ∧ Hid (OutT b5 w.heap.size P2 w W vo ui uq (t.procs.take p) t) ∧ Hid (b5 < W.heap.size)) (fun x _ => M - (intOf x).toNat)
      case atStart => exact ⟨0, _, _, rfl, Nat.zero_le _, HOT.out, HL59.out⟩
      case round =>
        clear HOT e19
        obtain ⟨p, vo, P2, hx, hp, HO, HL5⟩ := hrel
        subst hx
        have HBR : Hid (Below w.heap.size w wr) := HO.out.below
        by_cases hpm : p < M
        · have hi2p : (p : Int) < (M : Int) := by omega
          have hi0p : (0 : Int) ≤ (p : Int) := by omega
          have hwip : IntKind.i64.wrap (p : Int) = (p : Int) := by rw [IntKind.wrap_i64]; omega
          have hwjp : IntKind.i64.wrap ((p : Int) + 1) = (p : Int) + 1 := by rw [IntKind.wrap_i64]; omega
          have hpl : p < t.procs.length := by rw [HMM.out]; exact hpm
          have hk9 : Keep (fun q => q < w.heap.size) w9 wr := fun q hq hs => by
            have h1 := HBR.out.block q hq
            have h2 := HB9.out.block q hq
            rw [h1, h2]
          obtain ⟨gb, ob, cb, c, he, hG, hr⟩ := (HP19.out.up hk9).atN oneTProc (LsF.up (fun _ _ => oneTProc.up hk9) _ HP29.out) hpl
          injection he with he _ hec
          subst he hec
          obtain ⟨v9, f9, rfl, r9, g9⟩ := hG
          obtain ⟨lp, hlp⟩ : ∃ l, t.procs[p] = l := ⟨_, rfl⟩
          have HLP := Lib.hid hlp
          have HOKP := HOK.out.procs _ (List.getElem_mem hpl)
          rw [hlp] at r9 g9 HOKP
          obtain ⟨al, cl, rfl, hcl, hcl2, _⟩ := r9.form
          obtain ⟨z, hz⟩ : ∃ z, lp.length = z := ⟨_, rfl⟩
          have HZZ := Lib.hid hz
          have hcp := hr 0 (.slice al z cl) (by rw [← hz]; rfl)
          rw [Nat.add_zero, Nat.mul_one] at hcp
          rw [hz] at HOKP
          have hz1 := HOKP.1
          have hz60 := HOKP.2.1
          have HKA : Hid (∀ x ∈ lp, x.arcs.length ≤ 2000000) := fun x hx => HS.out.arcs lp (by rw [← hlp]; exact List.getElem_mem hpl) x hx
          have hCN := cloneTNodesFn r9 (LsF.one oneTNode _ g9) (by omega)
          rw [hz] at hCN
          have HCN := Lib.hid hCN
          have HG9 := Lib.hid g9
          clear hr r9 g9 hlp hz HOKP hCN hk9
          go_wp2_with (fail)
          refine HCN.out.mono ?_
          rintro e w3 ⟨hb3, v2, rfl, hown, hrow⟩
          have hown2 : w3.ownsRow wr.heap.size 61 4 v2 z f9 := by
            rcases hown with rfl | h
            · obtain ⟨_, _, he, _⟩ := hrow.form
              injection he with _ he _
              omega
            · exact h
          obtain ⟨g, cap, cs, rfl, hcap, hge, hbg, hcl2, hcs⟩ := owns_box hown2 (by omega)
          have hcapm : cap ≤ 9223372036854775807 := by
            obtain ⟨_, _, he, _, h5, _⟩ := hrow.form
            injection he with _ _ he
            subst he
            exact h5
          obtain ⟨fo0, ho0, _⟩ := HO.out.row
          have HVL : Hid (∀ q, vo.ownBlock = some q → w.heap.size ≤ q ∧ q < wr.heap.size) := fun q hq => ⟨owns_ge ho0 q hq, owns_lt ho0 q hq⟩
          have hin3 : InT (fun k => k ≠ b5 ∧ vo.ownBlock ≠ some k) g z lp w3 := by
            refine ⟨cs, hbg, hcl2, fun j hj => ?_⟩
            have h := LsF.cut_at oneTNode (LsF.up (fun _ _ => oneTNode.up (Keep.below hb3)) _ HG9.out) j hj
            rw [← hcs, cut_take (by rw [← HZZ.out]; exact hj)] at h
            exact h.mono fun q hq _ => by
              have hq2 : q < w.heap.size := hq
              have := HBR.out.size
              have := HG5.out
              exact ⟨by omega, by omega, fun e => by have := HVL.out q e; omega⟩
          have HOS := Lib.hid (HO.out.shrink.fresh hb3)
          have HIN3 := Lib.hid hin3
          have HGG : Hid (wr.heap.size ≤ g) := hge
          have HG3 : Hid (g < w3.heap.size) := hbg.lt
          have HSR : Hid (wr.heap.size ≤ w3.heap.size) := hb3.size
          clear ho0 hown hrow hown2 hbg hcl2 hcs hin3 hb3 hge HCN HG9 HO hcp
          go_wp2
          obtain ⟨wo, rfl⟩ : ∃ W, W = wr := ⟨_, rfl⟩
          go_loopw [32] (fun x W => ∃ i : Nat, x = .int .i64 (i : Int) ∧ i ≤ z ∧ Hid (InT (fun k => k ≠ b5 ∧ vo.ownBlock ≠ some k) g z lp W) ∧ Hid (Fr (fun q => q = g) w3 W)) (fun x _ => z - (intOf x).toNat)
          case atStart => exact ⟨0, rfl, Nat.zero_le _, HIN3.out, Fr.refl _ _⟩
          case round =>
            clear HIN3
            obtain ⟨i, hx, hi, HIN, HF⟩ := hrel
            subst hx
            by_cases hiz : i < z
            · have hi2i : (i : Int) < (z : Int) := by omega
              have hi0i : (0 : Int) ≤ (i : Int) := by omega
              have hwii : IntKind.i64.wrap (i : Int) = (i : Int) := by rw [IntKind.wrap_i64]; omega
              have hwji : IntKind.i64.wrap ((i : Int) + 1) = (i : Int) + 1 := by rw [IntKind.wrap_i64]; omega
              have hil : i < lp.length := by rw [HZZ.out]; exact hiz
              obtain ⟨cs, hc1, hc2, hc3⟩ := HIN.out
              obtain ⟨va, fa, hcut, hra, hga⟩ := hc3 i hil
              obtain ⟨x, hx⟩ : ∃ x, lp[i] = x := ⟨_, rfl⟩
              have HXX := Lib.hid hx
              rw [hx] at hcut hra hga
              have hcell : cs[i * 4]? = some va := by
                have h := cut_get (m := 4) (j := i) (q := 0) (cs := cs) (by omega)
                rw [hcut] at h
                exact h.symm
              obtain ⟨aa, ac, rfl, hac, _, _⟩ := hra.form
              obtain ⟨K, hK⟩ : ∃ K, x.arcs.length = K := ⟨_, rfl⟩
              have HKK := Lib.hid hK
              have HKX : Hid (x.arcs.length ≤ 2000000) := HKA.out x (by rw [← hx]; exact List.getElem_mem hil)
              have HCE := Lib.hid hcell
              have HC1 := Lib.hid hc1
              have HRA := Lib.hid hra
              have HGA := Lib.hid hga
              have HIX : Hid (i * 4 < cs.length) := by show _ < _; omega
              have HGO : Hid (∀ u ∈ fa, u.oneCell' = true) := LsF.one oneTArc _ hga
              clear hc1 hc2 hc3 hcut hra hga hx hcell hK
              have e12 : wr.cell? ⟨g, i * 4, none⟩ = some (.slice aa K ac) := by rw [← HKK.out]; exact (HC1.out.cell (i * 4)).trans HCE.out
              have HCL := cloneTArcsFn HRA.out HGO.out HKX.out
              rw [HKK.out] at HCL
              have HCL := Lib.hid HCL
              go_wp2_with (fail)
              refine HCL.out.mono ?_
              rintro e w4 ⟨hb4, v3, rfl, hv1, hv2⟩
              obtain ⟨a5, c5, rfl, _, _, _⟩ := hv2.form
              have HV2 := Lib.hid hv2
              have hin4 := HIN.out.below hb4
              obtain ⟨cs4, hd1, hd2, hd3⟩ := hin4
              have HIN4 : Hid (InT (fun k => k ≠ b5 ∧ vo.ownBlock ≠ some k) g z lp w4) := ⟨cs4, hd1, hd2, hd3⟩
              have HD1 := Lib.hid hd1
              have HDL : Hid (i * 4 < cs4.length) := by show _ < _; omega
              have HGA4 := Lib.hid (LsF.up (fun _ _ => oneTArc.up (Keep.below hb4)) _ HGA.out)
              have HF4 : Hid (Fr (fun q => q = g) w3 w4) := HF.out.trans (Fr.of_below hb4 _) fun q _ hq => hq
              have HSZ : Hid (w3.heap.size ≤ wr.heap.size) := HF.out.size
              clear hb4 hv1 hv2 hd1 hd2 hd3 HCL HRA HGA HC1 HCE HIX HIN HF e12
              go_wp2_with (refine wpList_store1 rfl 59 _ _ rfl g (i * 4) (.slice a5 K c5) rfl rfl HD1.out HDL.out sz_TArcs rfl rfl ?_)
              refine Named.mk (fun W5 hW5 => ?_)
              have hR5 : ∀ q, wr.heap.size ≤ q → q ≠ g ∧ q ≠ b5 ∧ vo.ownBlock ≠ some q := fun q hq => by
                have h1 := HG3.out
                have h2 := HSZ.out
                have h3 := HL5.out
                have h4 := HSR.out
                exact ⟨by omega, by omega, fun e => by have := (HVL.out q e).2; omega⟩
              have HIN5 : Hid (InT (fun k => k ≠ b5 ∧ vo.ownBlock ≠ some k) g z lp W5) := by
                refine HIN4.out.set (fa := fa) (v := .slice a5 K c5) hil ?_ ?_ hW5
                · rw [HXX.out, HKK.out]
                  exact HV2.out.mono fun q hq _ => hR5 q hq
                · rw [HXX.out]
                  exact LsF.mono (fun _ _ h => h) _ HGA4.out
              have HF5 : Hid (Fr (fun q => q = g) w3 W5) := HF4.out.trans (by rw [hW5]; exact Fr.setRX _ _ (i * 4) _) fun q _ hq => hq
              clear hW5 hR5 HIN4 HD1 HDL
              go_wp2
              refine ⟨⟨i + 1, by simp, by omega, HIN5, HF5⟩, ?_⟩
              simp [intOf]
              omega
            · obtain rfl : i = z := by omega
              have hR5 : ∀ q, wo.heap.size ≤ q → q ≠ b5 ∧ vo.ownBlock ≠ some q := fun q hq => by
                have h3 := HL5.out
                exact ⟨by omega, fun e => by have := (HVL.out q e).2; omega⟩
              have HPR : Hid (TProcF (fun k => k ≠ b5 ∧ vo.ownBlock ≠ some k) wr lp [.slice (some ⟨g, 0, none⟩) i cap]) := HIN.out.proc HZZ.out hcap hcapm (hR5 g HGG.out)
              have hos := HOS.out.fr HF.out fun k hk => by
                have hk : k = g := hk
                subst hk
                have h1 := HGG.out
                have h2 := HBR.out.size
                exact ⟨by omega, (hR5 k h1).1, (hR5 k h1).2, fun h => by have := h.2; omega⟩
              obtain ⟨fo, hro, hfo⟩ := hos.row
              obtain ⟨ao, co, hvo, hco, _⟩ := owns_form hro
              have hlo : (t.procs.take p).length = p := by rw [List.length_take, HMM.out]; omega
              rw [hlo] at hvo
              subst hvo
              have HOS2 := Lib.hid hos
              have HRO := Lib.hid hro
              have HFO := Lib.hid hfo
              have HLO := Lib.hid hlo
              have e51 := hos.box.cell 1
              simp only [List.getElem?_cons_zero, List.getElem?_cons_succ] at e51
              have HSW : Hid (w.heap.size ≤ wr.heap.size) := hos.below.size
              obtain ⟨i0, z0, hi0, hz0, hz1', hz2, hz3⟩ := info_of info_tsl
              rw [hlo] at hro
              have HRO2 := Lib.hid hro
              clear hos hro hfo hlo HOS HIN HF
              go_wp2_with (refine halt_call2' { callee := .builtin .append, args := #[.tmp 47, .tmp 49], argTypes := #[28, 28] } rfl ?_)
              refine Halt.mk ?_
              refine wpList_append_own_at _ rfl (.tmp 47) (.tmp 49) _ rfl w.heap.size 57 i0 z0 1 24 Try.underlying28 hi0 hz0 hz1' hz2 hz3 (by omega) (.slice ao p co) p fo rfl (owns_below HRO2.out ((Below.refl _ _).alloc (Nat.le_refl _) _)) ⟨wr.heap.size, 0, none⟩ 1 1 [.slice (some ⟨g, 0, none⟩) i cap] rfl rfl ?c1 ?c2 ?c3 ?c4 ?c5 ?_
              case c1 => exact cell_one_new _ _ _
              case c2 => simp [Value.oneCell']
              case c3 => unfold maxLen; omega
              case c4 => omega
              case c5 => have := HSW.out; simp; omega
              intro v' W8 hown hgrow _ hblk
              obtain ⟨av4, cv4, rfl, hcv4, _⟩ := owns_form hown
              have H58 := Lib.hid ((HOS2.out.box.alloc _).of_eq (hgrow.block _ (HOS2.out.box.alloc (.cells #[.slice (some ⟨g, 0, none⟩) i cap] 57)).lt fun he => owns_ne_holds HRO2.out HOS2.out.box (by decide) he.symm))
              have HOX := Lib.hid hown
              have HGW := Lib.hid hgrow
              have HBK := Lib.hid hblk
              clear hown hgrow hblk e51
              go_wp2_with (refine wpList_store1 rfl 28 _ _ rfl b5 1 (.slice av4 (p + 1) cv4) rfl rfl H58.out (Nat.le_of_ble_eq_true rfl) sz_TProcs rfl rfl ?_)
              refine Named.mk (fun WZ hWZ => ?_)
              have HOZ : Hid (OutT b5 w.heap.size (fun k => ((P2 k ∧ k < wo.heap.size) ∨ (k ≠ b5 ∧ (Value.slice ao p co).ownBlock ≠ some k)) ∧ k < wr.heap.size) w WZ (.slice av4 (p + 1) cv4) ui uq (t.procs.take (p + 1)) t) := by
                have h := HOS2.out.app HRO.out HFO.out HPR.out (fun k hk => hk) (by rw [HLO.out]; exact HOX.out) HGW.out HBK.out hWZ
                rw [show t.procs.take (p + 1) = t.procs.take p ++ [lp] from by rw [List.take_add_one, List.getElem?_eq_getElem hpl, HLP.out]; rfl]
                exact h
              have HLZ : Hid (b5 < WZ.heap.size) := HOZ.out.box.lt
              clear hWZ HOX HGW HBK H58 HOS2 HRO HRO2 HFO HPR
              go_wp2
              refine ⟨⟨p + 1, _, _, by simp, by omega, HOZ, HLZ⟩, ?_⟩
              simp [intOf]
              omega
        · obtain rfl : p = M := by omega
          have ho := HO.out
          rw [List.take_of_length_le (l := t.procs) (by rw [HMM.out]; exact Nat.le_refl _)] at ho
          obtain ⟨fo, hro, hfo⟩ := ho.row
          obtain ⟨fz, hp1, hp2⟩ := ho.props
          have HTV : Hid (ThrV (fun _ => True) wr ui vo uq t) := ⟨ho.init.mono fun _ _ _ => trivial, ⟨fo, RowL.of_owns hro fun _ _ => trivial, LsF.mono (fun _ _ => TProcF.mono fun _ _ _ => trivial) _ hfo⟩, ⟨fz, hp1.mono fun _ _ _ => trivial, LsF.mono (fun _ _ => TPropF.mono fun _ _ _ => trivial) _ hp2⟩⟩
          have HRGZ := Lib.hid (ho.box.range (i := 0) (n := 3) (xs := [ui, vo, uq]) rfl)
          clear ho hro hfo hp1 hp2 HO
          go_wp2_with (refine wpList_load_mid rfl 31 _ rfl b5 0 rfl [ui, vo, uq] _ HRGZ.out Try.underlying31 rfl sz_Thrs ?_)
          go_ret2
          exact ⟨HBR.out, .inl ⟨_, _, _, rfl, HOK.out, HTV.out⟩⟩
  · have HNG := Lib.hid hng
    clear HCK hok hb2 H1 HRG HV1 HV2 hng
    go_wp2
    go_ret2
    exact ⟨HB2.out, .inr ⟨rfl, HNG.out⟩⟩
end Go.Proofs.Ytcopoaaofjeklaa.G
