/- The walk of threads.foot. -/
import Derived.Test.YtcopoaaofjeklaaTtu
import Derived.Test.YtcopoaaofjeklaaMa4
namespace Go.Proofs.Ytcopoaaofjeklaa.G
open Go.RowKit
set_option linter.unusedVariables false
set_option linter.unusedSimpArgs false

theorem sz_Foot : (Try.prog.info? 25).map (·.size) = some 3 := by kernel_rfl
theorem sz_Ints : (Try.prog.info? 22).map (·.size) = some 1 := by kernel_rfl
theorem sz_U64 : (Try.prog.info? 23).map (·.size) = some 1 := by kernel_rfl
theorem tturns_lt (o : Int) : ∀ (l : List TProp) (i : Nat), tturns o l i < 2 ^ (i + l.length)
  | [], i => by rw [tturns]; exact Nat.two_pow_pos _
  | p :: l, i => by
    rw [tturns]
    have h := tturns_lt o l (i + 1)
    rw [List.length_cons, show i + (l.length + 1) = i + 1 + l.length by omega]
    refine Nat.or_lt_two_pow ?_ h
    split
    · exact pow2_lt (by omega)
    · exact Nat.two_pow_pos _
theorem or_mark {tp : Nat} (h : tp < 2 ^ 60) : bits BinOp.or IntKind.u64 (tp : Int) 9223372036854775808 = ((tp ||| 2 ^ 63 : Nat) : Int) := by
  have h1 : (2 : Nat) ^ 60 < 18446744073709551616 := by decide
  have := bits_or_u64_nat tp 9223372036854775808 (by omega) (by decide)
  exact this
def FootPost (t : PThr) (p : List TNode) (x : TNode) (a : TArc) (w : World) (e : Ending) (w' : World) : Prop := Below w.heap.size w w' ∧ ∃ vr vw, e = .returned (.agg #[vr, vw, .int .u64 (tfootT t p x a : Int)]) ∧ RowX w.heap.size w' vr (footR a) ∧ RowX w.heap.size w' vw (footW a)
structure FtS (lo b9 : Nat) (w1 W : World) (vr vw : Value) (lr lw : List Int) (tu : Nat) : Prop where
  fr : Fr (fun k => k = b9) w1 W
  h9 : Holds W b9 25 [vr, vw, .int .u64 (tu : Int)]
  r : RowX lo W vr lr
  w : RowX lo W vw lw
section
variable {lo b9 : Nat} {w1 W W' : World} {vr vw : Value} {lr lw : List Int} {tu : Nat}
theorem RowX.of_fr {lo b : Nat} {W W' : World} {v : Value} {l : List Int} {cs : List Value} {t : TypeId} (h : RowX lo W v l) (hf : Fr (fun q => q = b) W W') (hb : Holds W b t cs) (ht : 3 ≠ t) : RowX lo W' v l := by
  rcases h.1 with rfl | ho
  · refine ⟨.inl rfl, ?_⟩
    obtain ⟨a, c, h1, _⟩ := h.2.form
    injection h1 with _ h1 _
    obtain rfl : l = [] := List.eq_nil_of_length_eq_zero h1.symm
    exact RowL.nil _ _ _
  · have ho2 := hf.owns ho fun g hg e => owns_ne_holds ho hb ht (by rw [hg, e])
    exact ⟨.inr ho2, RowL.of_owns ho2 fun _ h => h⟩
theorem FtS.fresh (h : FtS lo b9 w1 W vr vw lr lw tu) (hb : Below W.heap.size W W') : FtS lo b9 w1 W' vr vw lr lw tu :=
  ⟨h.fr.trans (Fr.of_below hb _) fun q _ hq => hq, h.h9.belowAll hb, h.r.below hb, h.w.below hb⟩
theorem FtS.put (h : FtS lo b9 w1 W vr vw lr lw tu) {i : Nat} {v vr' vw' : Value} {lr' lw' : List Int} {tu' : Nat} (hW : W' = setR W b9 i [v]) (h9 : Holds W' b9 25 [vr', vw', .int .u64 (tu' : Int)]) (hr : RowX lo W vr' lr') (hw : RowX lo W vw' lw') : FtS lo b9 w1 W' vr' vw' lr' lw' tu' := by
  have hf : Fr (fun q => q = b9) W W' := by rw [hW]; exact Fr.setRX _ _ i _
  exact ⟨h.fr.trans hf fun q _ hq => hq, h9, RowX.of_fr hr hf h.h9 (by decide), RowX.of_fr hw hf h.h9 (by decide)⟩
theorem RowX.lit {W : World} {n : Int} (hl : lo ≤ W.heap.size) : RowX lo (W.alloc (.cells #[.int .i64 n] 3)) (.slice (some ⟨W.heap.size, 0, none⟩) 1 1) [n] := by
  have h := owns_lit (base := lo) (size := 1) (Holds.new W 3 #[.int .i64 n]) hl rfl (by omega)
  exact ⟨.inr h, RowL.of_owns h fun _ h => h⟩
theorem RowX.none : RowX lo W (.slice none 0 0) [] := ⟨.inl rfl, RowL.nil _ _ _⟩
end
set_option maxHeartbeats 4000000 in
set_option maxRecDepth 100000 in
theorem footFn {P : Nat → Prop} {w : World} {t : PThr} {vi vp vq v va : Value} {fp : List Value} {p : List TNode} {x : TNode} {a : TArc} (h : ThrV P w vi vp vq t) (hq : t.props.length ≤ 60) (hp : RowL P w 4 v p.length fp) (hpf : LsF TNodeF P w p fp) (hva : va.oneCell' = true) (hd : 0 ≤ a.dst ∧ a.dst < p.length) :
    Calls Try.prog 59 #[.agg #[vi, vp, vq], v, .agg #[va, .bool x.fin, .bool x.prog, .bool x.acc], .agg (tarcC a).toArray] w (FootPost t p x a w) := by
  have h := h.mono (Q := fun q => q < w.heap.size) fun q _ hq => hq
  have hp := hp.mono (Q := fun q => q < w.heap.size) fun q _ hq => hq
  have hpf := LsF.mono (Q := fun q => q < w.heap.size) (fun _ _ => TNodeF.mono fun q _ hq => hq) _ hpf
  obtain ⟨fr, q1, q2⟩ := h.props
  obtain ⟨a0, c0, rfl, hc0, _, _⟩ := hp.form
  have c1 : vi.oneCell' = true := h.init.cell1
  have c2 : vp.oneCell' = true := by obtain ⟨_, k, _⟩ := h.procs; exact k.cell1
  have c3 : vq.oneCell' = true := q1.cell1
  have HP := Lib.hid hp
  have HPF := Lib.hid hpf
  have HQ1 := Lib.hid q1
  have HQ2 := Lib.hid q2
  have HQ := Lib.hid hq
  clear h hq hp hpf q1 q2
  obtain ⟨k, hk⟩ : ∃ k : Nat, a.dst = (k : Int) := ⟨a.dst.toNat, by omega⟩
  have hkp : k < p.length := by omega
  have hkd : a.dst.toNat = k := by omega
  have HKD := Lib.hid hkd
  have HKP := Lib.hid hkp
  obtain ⟨mR, hmR⟩ : ∃ l, footR a = l := ⟨_, rfl⟩
  obtain ⟨mW, hmW⟩ : ∃ l, footW a = l := ⟨_, rfl⟩
  obtain ⟨tp, htp⟩ : ∃ n, (if a.put then tturns a.sobj t.props 0 else 0) = n := ⟨_, rfl⟩
  have htf : tfootT t p x a = tp ||| (if marksDiffer x p[k] then 2 ^ 63 else 0) := by
    unfold tfootT
    rw [htp, hkd, List.getElem?_eq_getElem hkp]
    rfl
  have hpost : ∀ e w', (Below w.heap.size w w' ∧ ∃ vr vw, e = Ending.returned (.agg #[vr, vw, .int .u64 ((tp ||| (if marksDiffer x p[k] then 2 ^ 63 else 0) : Nat) : Int)]) ∧ RowX w.heap.size w' vr mR ∧ RowX w.heap.size w' vw mW) → FootPost t p x a w e w' := fun e w' h => by
    unfold FootPost
    rw [htf, hmR, hmW]
    exact h
  obtain ⟨y, hy⟩ : ∃ y, p[k] = y := ⟨_, rfl⟩
  rw [hy] at hpost
  have HY := Lib.hid hy
  refine Calls.mono ?_ hpost
  clear hpost htf
  obtain ⟨a1, a2, a3, a4, a5, a6, a7, a8⟩ := a
  have HMR : Hid ((if a2 then [a3] else []) = mR) := hmR
  have HMW : Hid ((if a5 then [a6] else []) = mW) := hmW
  have HTP : Hid ((if a5 then tturns a6 t.props 0 else 0) = tp) := htp
  simp only at hk hd hkd
  subst hk
  simp only [tarcC]
  clear hd hkd HKD hmR hmW htp hy
  go_enter Try.func59, Try.ntmps59
  go_upto_region 2 with (fail)
  obtain ⟨w1, hw1⟩ : ∃ W, W = (((((w.alloc (.cells #[vi, vp, vq] 66)).alloc (.cells #[va, .bool x.fin, .bool x.prog, .bool x.acc] 61)).alloc (.cells #[.int .i64 (k : Int), .bool a2, .int .i64 a3, .int .i64 a4, .bool a5, .int .i64 a6, .int .i64 a7, .int .i64 a8] 64)).alloc (.cells #[.slice none 0 0, .slice none 0 0, .int .u64 0] 25)).alloc (.cells #[.slice none 0 0, .slice none 0 0, .int .u64 0] 25)) := ⟨_, rfl⟩
  rw [← hw1]
  have hb1 : Below w.heap.size w w1 := by rw [hw1]; exact (((((Below.refl _ w).alloc (Nat.le_refl _) _).alloc (by simp) _).alloc (by simp; omega) _).alloc (by simp; omega) _).alloc (by simp; omega) _
  have h4 : Holds w1 w.heap.size 66 [vi, vp, vq] := by rw [hw1]; exact ((((Holds.new w 66 #[vi, vp, vq]).alloc _).alloc _).alloc _).alloc _
  have h6 : Holds w1 (w.heap.size + 1) 61 [va, .bool x.fin, .bool x.prog, .bool x.acc] := by
    have h := Holds.new (w.alloc (.cells #[vi, vp, vq] 66)) 61 #[va, .bool x.fin, .bool x.prog, .bool x.acc]
    simp only [World.size_alloc] at h
    rw [hw1]; exact ((h.alloc _).alloc _).alloc _
  have h7 : Holds w1 (w.heap.size + 1 + 1) 64 [.int .i64 (k : Int), .bool a2, .int .i64 a3, .int .i64 a4, .bool a5, .int .i64 a6, .int .i64 a7, .int .i64 a8] := by
    have h := Holds.new ((w.alloc (.cells #[vi, vp, vq] 66)).alloc (.cells #[va, .bool x.fin, .bool x.prog, .bool x.acc] 61)) 64 #[.int .i64 (k : Int), .bool a2, .int .i64 a3, .int .i64 a4, .bool a5, .int .i64 a6, .int .i64 a7, .int .i64 a8]
    simp only [World.size_alloc] at h
    rw [hw1]; exact (h.alloc _).alloc _
  have h8 : Holds w1 (w.heap.size + 1 + 1 + 1) 25 [.slice none 0 0, .slice none 0 0, .int .u64 0] := by
    have h := Holds.new (((w.alloc (.cells #[vi, vp, vq] 66)).alloc (.cells #[va, .bool x.fin, .bool x.prog, .bool x.acc] 61)).alloc (.cells #[.int .i64 (k : Int), .bool a2, .int .i64 a3, .int .i64 a4, .bool a5, .int .i64 a6, .int .i64 a7, .int .i64 a8] 64)) 25 #[.slice none 0 0, .slice none 0 0, .int .u64 0]
    simp only [World.size_alloc] at h
    rw [hw1]; exact h.alloc _
  have h9 : Holds w1 (w.heap.size + 1 + 1 + 1 + 1) 25 [.slice none 0 0, .slice none 0 0, .int .u64 0] := by
    have h := Holds.new ((((w.alloc (.cells #[vi, vp, vq] 66)).alloc (.cells #[va, .bool x.fin, .bool x.prog, .bool x.acc] 61)).alloc (.cells #[.int .i64 (k : Int), .bool a2, .int .i64 a3, .int .i64 a4, .bool a5, .int .i64 a6, .int .i64 a7, .int .i64 a8] 64)).alloc (.cells #[.slice none 0 0, .slice none 0 0, .int .u64 0] 25)) 25 #[.slice none 0 0, .slice none 0 0, .int .u64 0]
    simp only [World.size_alloc] at h
    rw [hw1]; exact h
  have hs1 : w1.heap.size = w.heap.size + 1 + 1 + 1 + 1 + 1 := by rw [hw1]; simp
  clear hw1
  obtain ⟨b9, hb9⟩ : ∃ b, w.heap.size + 1 + 1 + 1 + 1 = b := ⟨_, rfl⟩
  have HB9 : Hid (w.heap.size ≤ b9 ∧ w.heap.size + 1 + 1 + 1 ≠ b9) := by show _ ∧ _; omega
  rw [hb9] at h9 ⊢
  obtain ⟨b8, hb8⟩ : ∃ b, w.heap.size + 1 + 1 + 1 = b := ⟨_, rfl⟩
  rw [hb8] at h8 HB9 ⊢
  obtain ⟨b7, hb7⟩ : ∃ b, w.heap.size + 1 + 1 = b := ⟨_, rfl⟩
  rw [hb7] at h7 ⊢
  obtain ⟨b6, hb6⟩ : ∃ b, w.heap.size + 1 = b := ⟨_, rfl⟩
  rw [hb6] at h6 ⊢
  obtain ⟨b4, hb4⟩ : ∃ b, w.heap.size = b := ⟨_, rfl⟩
  have HB4 := Lib.hid hb4
  have HB8 : Hid (b4 ≤ b8) := by show _ ≤ _; omega
  rw [hb4] at h4 HB9 ⊢
  have HF1 : Hid (FtS b4 b9 w1 w1 (.slice none 0 0) (.slice none 0 0) [] [] 0) := ⟨Fr.refl _ _, h9, RowX.none, RowX.none⟩
  have HB1 := Lib.hid hb1
  have HH9 := Lib.hid h9
  have H4 := Lib.hid h4
  have H6 := Lib.hid h6
  have H7 := Lib.hid h7
  have H8 := Lib.hid h8
  have HR := Lib.hid (HP.out.up (Keep.below hb1))
  have HRF := Lib.hid (LsF.up (fun _ _ => oneTNode.up (Keep.below hb1)) _ HPF.out)
  have HV1 := Lib.hid (HQ1.out.up (Keep.below hb1))
  have HV2 := Lib.hid (LsF.up (fun _ _ => oneTProp.up (Keep.below hb1)) _ HQ2.out)
  have HLO : Hid (b4 ≤ w1.heap.size) := by show _ ≤ _; omega
  have e1 := h7.cell 1
  simp only [List.getElem?_cons_zero, List.getElem?_cons_succ] at e1
  clear hb1 h4 h6 h7 h8 h9 hs1 hb9 hb8 hb7 hb6 hb4 HP HPF HQ1 HQ2
  go_upto_if 12 with (fail)
  go_cut [] (fun wx => ∃ vr, Hid (FtS b4 b9 w1 wx vr (.slice none 0 0) mR [] 0))
  case first =>
    cases a2 with
    | true =>
      have h3 := H7.out.cell 2
      simp only [List.getElem?_cons_zero, List.getElem?_cons_succ] at h3
      have hF2 := HF1.out.fresh (W' := w1.alloc (.cells #[.int .i64 a3] 3)) ((Below.refl _ _).alloc (Nat.le_refl _) _)
      have HX : Hid (RowX b4 (w1.alloc (.cells #[.int .i64 a3] 3)) (.slice (some ⟨w1.heap.size, 0, none⟩) 1 1) [a3]) := RowX.lit HLO.out
      have HF2 := Lib.hid hF2
      clear hF2
      go_wp2_with (refine wpList_store1 rfl 22 _ _ rfl b9 0 (.slice (some ⟨w1.heap.size, 0, none⟩) 1 1) rfl rfl HF2.out.h9 (Nat.le_of_ble_eq_true rfl) sz_Ints rfl rfl ?_)
      refine Named.mk (fun W2 hW2 => ?_)
      have h9 : Holds W2 b9 25 [.slice (some ⟨w1.heap.size, 0, none⟩) 1 1, .slice none 0 0, .int .u64 0] := HF2.out.h9.stored hW2 (Nat.le_of_ble_eq_true rfl)
      have HF3 := Lib.hid (HF2.out.put hW2 h9 HX.out RowX.none)
      clear hW2 h9
      go_wp2
      go_meet
      case rel => exact ⟨_, by rw [← HMR.out]; exact HF3.out⟩
    | false =>
      go_wp2
      go_meet
      case rel => exact ⟨_, by rw [← HMR.out]; exact HF1.out⟩
  case rest =>
    obtain ⟨vr, HF⟩ := hcut
    clear HF1 e1
    have KP : Hid (∀ {W : World}, Fr (fun q => q = b9) w1 W → Keep (fun q => q < w.heap.size) w1 W) := fun hf q hq hs => hf.block q hs (by have := HB9.out; have := HB4.out; intro e; have e : q = b9 := e; have hq : q < w.heap.size := hq; omega)
    have ne7 : Hid (∀ {W : World}, Fr (fun q => q = b9) w1 W → Holds W b7 64 [.int .i64 (k : Int), .bool a2, .int .i64 a3, .int .i64 a4, .bool a5, .int .i64 a6, .int .i64 a7, .int .i64 a8]) := fun hf => hf.holds H7.out (H7.out.ne_of_type HH9.out (by decide))
    have ne4 : Hid (∀ {W : World}, Fr (fun q => q = b9) w1 W → Holds W b4 66 [vi, vp, vq]) := fun hf => hf.holds H4.out (H4.out.ne_of_type HH9.out (by decide))
    have ne6 : Hid (∀ {W : World}, Fr (fun q => q = b9) w1 W → Holds W b6 61 [va, .bool x.fin, .bool x.prog, .bool x.acc]) := fun hf => hf.holds H6.out (H6.out.ne_of_type HH9.out (by decide))
    have e4 := (ne7.out HF.out.fr).cell 4
    simp only [List.getElem?_cons_zero, List.getElem?_cons_succ] at e4
    go_upto_if 18 with (fail)
    go_cut [] (fun wx => ∃ vw, Hid (FtS b4 b9 w1 wx vr vw mR mW tp))
    case first =>
      cases a5 with
      | true =>
        have e5 := (ne7.out HF.out.fr).cell 5
        simp only [List.getElem?_cons_zero, List.getElem?_cons_succ] at e5
        have hlo : b4 ≤ wc.heap.size := Nat.le_trans HLO.out HF.out.fr.size
        have hF2 := HF.out.fresh (W' := wc.alloc (.cells #[.int .i64 a6] 3)) ((Below.refl _ _).alloc (Nat.le_refl _) _)
        have HX : Hid (RowX b4 (wc.alloc (.cells #[.int .i64 a6] 3)) (.slice (some ⟨wc.heap.size, 0, none⟩) 1 1) [a6]) := RowX.lit hlo
        have HF2 := Lib.hid hF2
        clear hF2
        go_wp2_with (refine wpList_store1 rfl 22 _ _ rfl b9 1 (.slice (some ⟨wc.heap.size, 0, none⟩) 1 1) rfl rfl HF2.out.h9 (Nat.le_of_ble_eq_true rfl) sz_Ints rfl rfl ?_)
        refine Named.mk (fun W2 hW2 => ?_)
        have h9 : Holds W2 b9 25 [vr, .slice (some ⟨wc.heap.size, 0, none⟩) 1 1, .int .u64 0] := HF2.out.h9.stored hW2 (Nat.le_of_ble_eq_true rfl)
        have HF3 := Lib.hid (HF2.out.put hW2 h9 HF2.out.r HX.out)
        have q4 := ne4.out HF3.out.fr
        have q7 := ne7.out HF3.out.fr
        have HRG := Lib.hid (q4.range (i := 0) (n := 3) (xs := [vi, vp, vq]) rfl)
        have e52 := q7.cell 5
        simp only [List.getElem?_cons_zero, List.getElem?_cons_succ] at e52
        have HT := Lib.hid (turnsFn (o := a6) (HV1.out.up (KP.out HF3.out.fr)) (LsF.up (fun _ _ => oneTProp.up (KP.out HF3.out.fr)) _ HV2.out) c1 c2 HQ.out)
        clear hW2 h9 q4 q7 hlo e5
        go_wp2_with (refine wpList_load_mid rfl 66 _ rfl b4 0 rfl [vi, vp, vq] _ HRG.out Try.underlying66 rfl sz_Thr ?_)
        refine HT.out.mono ?_
        rintro e W3 ⟨rfl, hb3⟩
        have HF4 := Lib.hid (HF3.out.fresh hb3)
        clear hb3
        go_wp2_with (refine wpList_store1 rfl 23 _ _ rfl b9 2 (.int .u64 (tturns a6 t.props 0 : Int)) rfl rfl HF4.out.h9 (Nat.le_of_ble_eq_true rfl) sz_U64 rfl rfl ?_)
        refine Named.mk (fun W5 hW5 => ?_)
        have h9 : Holds W5 b9 25 [vr, .slice (some ⟨wc.heap.size, 0, none⟩) 1 1, .int .u64 (tturns a6 t.props 0 : Int)] := HF4.out.h9.stored hW5 (Nat.le_of_ble_eq_true rfl)
        have HF5 := Lib.hid (HF4.out.put hW5 h9 HF4.out.r HF4.out.w)
        clear hW5 h9
        go_wp2
        go_meet
        case rel => exact ⟨_, by rw [← HMW.out, ← HTP.out]; exact HF5.out⟩
      | false =>
        go_wp2
        go_meet
        case rel => exact ⟨_, by rw [← HMW.out, ← HTP.out]; exact HF.out⟩
    case rest =>
      clear HF e4 
      obtain ⟨vw, HF⟩ := hcut
      obtain ⟨gb, ob, cb, c, he, hG, hr⟩ := (HR.out.up (KP.out HF.out.fr)).atN oneTNode (LsF.up (fun _ _ => oneTNode.up (KP.out HF.out.fr)) _ HRF.out) HKP.out
      injection he with he _ hec
      subst he hec
      rw [show p[k] = y from HY.out] at hG
      obtain ⟨vy, fy, rfl, ry, _⟩ := hG
      have hyc := ry.cell1
      have HRG := Lib.hid hr
      have HZ := Lib.hid (Holds.new wc 61 #[.slice none 0 0, .bool false, .bool false, .bool false])
      have e0 := (ne7.out HF.out.fr).cell 0
      simp only [List.getElem?_cons_zero, List.getElem?_cons_succ] at e0
      clear hr ry
      have hkk : (k : Int) < (p.length : Int) := by omega
      have hk0 : (0 : Int) ≤ (k : Int) := by omega
      have hone : ([vy, .bool y.fin, .bool y.prog, .bool y.acc] : List Value).all (·.oneCell') = true := by simp [hyc]; simp [Value.oneCell']
      go_wp2_with (first | (refine wpList_load_mid rfl 61 _ rfl gb (ob + k * 4) rfl [vy, .bool y.fin, .bool y.prog, .bool y.acc] _ HRG.out Try.underlying61 rfl sz_TNode ?_) | (refine wpList_storeB rfl 61 _ _ rfl wc.heap.size 0 [vy, .bool y.fin, .bool y.prog, .bool y.acc] rfl rfl HZ.out (Nat.le_of_ble_eq_true rfl) sz_TNode hone ?_))
      refine Named.mk (fun W2 hW2 => ?_)
      have hb2 : Below wc.heap.size wc W2 := by rw [hW2]; exact Below.far (Below.refl _ _) (Nat.le_refl _) _ _ _
      have h10 : Holds W2 wc.heap.size 61 [vy, .bool y.fin, .bool y.prog, .bool y.acc] := HZ.out.stored hW2 (Nat.le_of_ble_eq_true rfl)
      have HF2 := Lib.hid (HF.out.fresh hb2)
      have h62 := ne6.out HF2.out.fr
      have x1 := h62.cell 1
      have x2 := h62.cell 2
      have x3 := h62.cell 3
      have y1 := h10.cell 1
      have y2 := h10.cell 2
      have y3 := h10.cell 3
      simp only [List.getElem?_cons_zero, List.getElem?_cons_succ] at x1 x2 x3 y1 y2 y3
      generalize wc.heap.size = b10 at *
      obtain ⟨xf, hxf⟩ : ∃ b, x.fin = b := ⟨_, rfl⟩
      obtain ⟨xp, hxp⟩ : ∃ b, x.prog = b := ⟨_, rfl⟩
      obtain ⟨xa, hxa⟩ : ∃ b, x.acc = b := ⟨_, rfl⟩
      obtain ⟨yf, hyf⟩ : ∃ b, y.fin = b := ⟨_, rfl⟩
      obtain ⟨yp, hyp⟩ : ∃ b, y.prog = b := ⟨_, rfl⟩
      obtain ⟨ya, hya⟩ : ∃ b, y.acc = b := ⟨_, rfl⟩
      have HD : Hid (marksDiffer x y = ((xf != yf) || (xp != yp) || (xa != ya))) := by show _ = _; unfold marksDiffer; rw [hxf, hxp, hxa, hyf, hyp, hya]
      rw [hxf] at x1
      rw [hxp] at x2
      rw [hxa] at x3
      rw [hyf] at y1
      rw [hyp] at y2
      rw [hya] at y3
      clear hW2 hb2 h10 HF HZ HRG e0 h62 hxf hxp hxa hyf hyp hya
      go_upto_region 8 with (fail)
      go_cut [51] (fun s wx => s = .bool (marksDiffer x y) ∧ wx = W2)
      case first =>
        go_wp2
        all_goals
          go_meet
          refine ⟨?_, rfl⟩
          rw [HD.out]
          clear HD
          simp_all [bne]
      case rest =>
        obtain ⟨rfl, rfl⟩ := hcut
        clear x1 x2 x3 y1 y2 y3
        have HT60 : Hid (tp < 2 ^ 60) := by
          show _ < _
          rw [← HTP.out]
          split
          · have h := tturns_lt a6 t.props 0
            have h2 : 2 ^ (0 + t.props.length) ≤ 2 ^ 60 := Nat.pow_le_pow_right (by omega) (by have := HQ.out; omega)
            omega
          · exact Nat.two_pow_pos _
        cases hmd : marksDiffer x y with
        | true =>
          have g2 := HF2.out.h9.cell 2
          simp only [List.getElem?_cons_zero, List.getElem?_cons_succ] at g2
          have hor := or_mark HT60.out
          obtain ⟨tq, htq⟩ : ∃ q, tp ||| 2 ^ 63 = q := ⟨_, rfl⟩
          rw [htq] at hor
          have HTQ := Lib.hid htq
          clear htq
          go_wp2_with (refine wpList_store1 rfl 23 _ _ rfl b9 2 (.int .u64 (tq : Int)) rfl rfl HF2.out.h9 (Nat.le_of_ble_eq_true rfl) sz_U64 rfl rfl ?_)
          refine Named.mk (fun W5 hW5 => ?_)
          have h9 : Holds W5 b9 25 [vr, vw, .int .u64 (tq : Int)] := HF2.out.h9.stored hW5 (Nat.le_of_ble_eq_true rfl)
          have HF5 := Lib.hid (HF2.out.put hW5 h9 HF2.out.r HF2.out.w)
          clear hW5 h9 g2 hor
          have HRG := Lib.hid (HF5.out.h9.range (i := 0) (n := 3) (xs := [vr, vw, .int .u64 (tq : Int)]) rfl)
          have H82 := Lib.hid (HF5.out.fr.holds H8.out HB9.out.2)
          have hone : ([vr, vw, .int .u64 (tq : Int)] : List Value).all (·.oneCell') = true := by simp [HF5.out.r.2.cell1, HF5.out.w.2.cell1]; simp [Value.oneCell']
          go_wp2_with (first | (refine wpList_load_mid rfl 25 _ rfl b9 0 rfl [vr, vw, .int .u64 (tq : Int)] _ HRG.out Try.underlying25 rfl sz_Foot ?_) | (refine wpList_storeB rfl 25 _ _ rfl b8 0 [vr, vw, .int .u64 (tq : Int)] rfl rfl H82.out (Nat.le_of_ble_eq_true rfl) sz_Foot hone ?_))
          refine Named.mk (fun W3 hW3 => ?_)
          have hf3 : Fr (fun q => q = b8) W5 W3 := by rw [hW3]; exact Fr.setRX _ _ 0 _
          have h83 : Holds W3 b8 25 [vr, vw, .int .u64 (tq : Int)] := H82.out.stored hW3 (Nat.le_of_ble_eq_true rfl)
          have H83 := Lib.hid h83
          have HR3 := Lib.hid (RowX.of_fr HF5.out.r hf3 H82.out (by decide))
          have HW3 := Lib.hid (RowX.of_fr HF5.out.w hf3 H82.out (by decide))
          have HBZ : Hid (Below w.heap.size w W3) := by
            have q1 := HF5.out.fr.to_below HLO.out fun q hq e => by have := HB9.out.1; have e : q = b9 := e; omega
            have q2 := hf3.to_below (B := b4) (Nat.le_trans HLO.out HF5.out.fr.size) fun q hq e => by have := HB8.out; have e : q = b8 := e; omega
            have q3 := q1.trans q2
            rw [← HB4.out] at q3
            exact HB1.out.trans q3
          clear hW3 hf3 h83
          go_wp2
          refine bodyPost_ret (outBox Try.results59 H83.out rfl _ Try.underlying25 rfl sz_Foot) rfl ?_
          rw [HB4.out]
          rw [HB4.out] at HBZ
          refine ⟨HBZ.out, vr, vw, ?_, HR3.out, HW3.out⟩
          rw [← HTQ.out]
        | false =>
          have HRG := Lib.hid (HF2.out.h9.range (i := 0) (n := 3) (xs := [vr, vw, .int .u64 (tp : Int)]) rfl)
          have H82 := Lib.hid (HF2.out.fr.holds H8.out HB9.out.2)
          have hone : ([vr, vw, .int .u64 (tp : Int)] : List Value).all (·.oneCell') = true := by simp [HF2.out.r.2.cell1, HF2.out.w.2.cell1]; simp [Value.oneCell']
          go_wp2_with (first | (refine wpList_load_mid rfl 25 _ rfl b9 0 rfl [vr, vw, .int .u64 (tp : Int)] _ HRG.out Try.underlying25 rfl sz_Foot ?_) | (refine wpList_storeB rfl 25 _ _ rfl b8 0 [vr, vw, .int .u64 (tp : Int)] rfl rfl H82.out (Nat.le_of_ble_eq_true rfl) sz_Foot hone ?_))
          refine Named.mk (fun W3 hW3 => ?_)
          have hf3 : Fr (fun q => q = b8) wc W3 := by rw [hW3]; exact Fr.setRX _ _ 0 _
          have h83 : Holds W3 b8 25 [vr, vw, .int .u64 (tp : Int)] := H82.out.stored hW3 (Nat.le_of_ble_eq_true rfl)
          have H83 := Lib.hid h83
          have HR3 := Lib.hid (RowX.of_fr HF2.out.r hf3 H82.out (by decide))
          have HW3 := Lib.hid (RowX.of_fr HF2.out.w hf3 H82.out (by decide))
          have HBZ : Hid (Below w.heap.size w W3) := by
            have q1 := HF2.out.fr.to_below HLO.out fun q hq e => by have := HB9.out.1; have e : q = b9 := e; omega
            have q2 := hf3.to_below (B := b4) (Nat.le_trans HLO.out HF2.out.fr.size) fun q hq e => by have := HB8.out; have e : q = b8 := e; omega
            have q3 := q1.trans q2
            rw [← HB4.out] at q3
            exact HB1.out.trans q3
          clear hW3 hf3 h83
          go_wp2
          all_goals
            refine bodyPost_ret (outBox Try.results59 H83.out rfl _ Try.underlying25 rfl sz_Foot) rfl ?_
            rw [HB4.out]
            rw [HB4.out] at HBZ
            refine ⟨HBZ.out, vr, vw, ?_, HR3.out, HW3.out⟩
            simp
end Go.Proofs.Ytcopoaaofjeklaa.G
