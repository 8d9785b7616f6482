/- The walk of the reference's Next (printed by mkrnx.py). -/
import Derived.Test.YtcedenoicmpjmaaMs5
namespace Go.Proofs.Ytcedenoicmpjmaa
open Go.RowKit
set_option linter.unusedVariables false
set_option linter.unusedSimpArgs false

structure NxO (S : Nat) (w3 : World) (l : List (PArc × Nat)) (vo : Value) (wr : World) : Prop where
  below : Below S w3 wr
  ge : S ≤ w3.heap.size
  row : ∃ fo, wr.ownsRow S 79 9 vo l.length fo ∧ LsF MovF (fun q => S ≤ q ∧ vo.ownBlock ≠ some q) wr l fo
theorem NxO.app {S : Nat} {w3 wr W8 W9 : World} {l : List (PArc × Nat)} {y : PArc × Nat} {vo vo' : Value} {fo c : List Value} {o : Obj} (h : NxO S w3 l vo wr) (hr : wr.ownsRow S 79 9 vo l.length fo) (hfo : LsF MovF (fun q => S ≤ q ∧ vo.ownBlock ≠ some q) wr l fo) (h8 : Below wr.heap.size wr W8) (hy : MovF (fun q => wr.heap.size ≤ q) W8 y c)
    (hown : W9.ownsRow S 79 9 vo' (l.length + 1) (fo ++ c)) (hgr : (W8.alloc o).grownBy W9 vo.ownBlock) (hblk : vo'.ownBlock = vo.ownBlock ∨ vo'.ownBlock = some (W8.alloc o).heap.size) : NxO S w3 (l ++ [y]) vo' W9 := by
  have hg := h.ge
  have hbs := h.below.size
  have hvl := owns_lt hr
  have hvg := owns_ge hr
  have hs8 := h8.size
  have hs9 : W8.heap.size ≤ (W8.alloc o).heap.size := by simp
  have hf9 : Fr (fun q => vo.ownBlock = some q) W8 W9 := ((Fr.refl _ W8).alloc o).grown hgr fun q hq _ => hq
  have hv : ∀ k, k < W8.heap.size → vo.ownBlock ≠ some k → vo'.ownBlock ≠ some k := fun k hk hn he => by
    rcases hblk with hb | hb
    · rw [hb] at he; exact hn he
    · rw [hb] at he; injection he with he; omega
  refine ⟨(h.below.trans (h8.mono (by omega))).trans (hf9.to_below (by omega) fun k hk hor => by have := hvg k hor; omega), h.ge, fo ++ c, by rw [List.length_append]; exact hown, LsF.append ?_ (LsF.sing ?_)⟩
  · have a0 := LsF.mono (fun _ _ => MovF.mono (Wide.in_ (w := wr))) _ hfo
    have a1 := LsF.up (w' := W8) (fun _ _ => oneMov.up fun k hk hs => h8.block k hs) _ a0
    have a2 := LsF.up (w' := W9) (fun _ _ => oneMov.up fun k hk hs => hf9.block k hs hk.1.2) _ a1
    exact LsF.mono (fun _ _ => MovF.mono fun k hk _ => ⟨hk.1.1, hv k (by omega) hk.1.2⟩) _ a2
  · have hne : ∀ k, wr.heap.size ≤ k → vo.ownBlock ≠ some k := fun k hk he => by have := hvl k he; omega
    have a0 := MovF.mono (Wide.in_ (w := W8)) hy
    have a2 := oneMov.up (w' := W9) (fun k hk hs => hf9.block k hs (hne k hk.1)) a0
    exact MovF.mono (fun k hk _ => ⟨by omega, hv k hk.2 (hne k hk.1)⟩) a2
theorem NxO.moves {S base : Nat} {w3 wr : World} {l : List PArc} {vo : Value} (h : NxO S w3 l.zipIdx vo wr) (hb : base ≤ S) : MovesV (From base) wr vo l := by
  obtain ⟨fo, h1, h2⟩ := h.row
  rw [List.length_zipIdx] at h1
  exact ⟨fo, RowL.of_owns h1 fun k hk => Nat.le_trans hb hk, LsF.mono (fun _ _ => MovF.mono fun k hk _ => Nat.le_trans hb hk.1) _ h2⟩
def NextPost (N : PNet) (s : Bs) (w : World) (e : Ending) (w' : World) : Prop := Below w.heap.size w w' ∧ ∃ v, e = .returned v ∧ MovesV (From w.heap.size) w' v ((nodeOf N s).getD zeroN).arcs
theorem info_move : (Try.prog.info? 79).map (fun i => (i.zero.map fun z => z.cells.size, i.size, i.bytes)) = some (some 9, 9, 112) := by kernel_rfl
set_option maxHeartbeats 4000000 in
set_option maxRecDepth 100000 in
theorem refNextFn {P : Nat → Prop} {w : World} {n : PNet} {v : Value} {s : ByteArray} (h : NetV P w v n) (hs : s.size ≤ 1048576) (hN : n.length ≤ 20000) (hsm : Small n) (hto : ∀ x ∈ n, ∀ a ∈ x.arcs, 0 ≤ a.to ∧ a.to < 9223372036854775808) : Calls Try.prog 14 #[.agg #[v], .string s] w (NextPost n s.data.toList w) := by
  have h := h.mono (Q := fun k => k < w.heap.size) (fun k _ hk => hk)
  obtain ⟨f, hr, hg⟩ := h
  obtain ⟨a0, k0, rfl, hk0, _, _⟩ := hr.form
  obtain ⟨M, hM⟩ : ∃ M, n.length = M := ⟨_, rfl⟩
  have HM := Lib.hid hM
  have HNN := Lib.hid hN
  rw [hM] at hk0 hN ⊢
  obtain ⟨w1, hw1⟩ : ∃ W, W = w.alloc (.cells #[.slice a0 M k0] 24) := ⟨_, rfl⟩
  have hb1 : Below w.heap.size w w1 := by rw [hw1]; exact (Below.refl _ _).alloc (Nat.le_refl _) _
  have h2 : Holds w1 w.heap.size 24 [.slice a0 M k0] := by rw [hw1]; exact Holds.new w 24 #[.slice a0 M k0]
  have HB1 := Lib.hid hb1
  have H2 := Lib.hid h2
  have HR := Lib.hid (hr.up (Keep.below hb1))
  have HG := Lib.hid (LsF.up (fun _ _ => oneNode.up (Keep.below hb1)) _ hg)
  have HC := Lib.hid (refNumbers (w := w1) (m := 1) hs (by omega))
  clear hr hg hb1 h2 hM
  go_enter Try.func14, Try.ntmps14
  go_wp2_with (fail)
  rw [← hw1]
  clear hw1
  refine HC.out.mono ?_
  rintro e w2 ⟨hb2, hpost⟩
  have HB2 : Hid (Below w.heap.size w w2) := HB1.out.trans (hb2.mono HB1.out.size)
  have H22 := Lib.hid (H2.out.belowAll hb2)
  have HR2 := Lib.hid (HR.out.up (Keep.below hb2))
  have HG2 := Lib.hid (LsF.up (fun _ _ => oneNode.up (Keep.below hb2)) _ HG.out)
  have c2 := H22.out.cell 0
  simp only [List.getElem?_cons_zero] at c2
  clear hb2 H2 HR HG HC
  cases hnu : nums 1099511627776 1 s.data.toList with
  | none =>
    rw [hnu] at hpost
    have HNO := Lib.hid (ref_none (N := n) hnu)
    dsimp only at hpost
    subst hpost
    clear hnu
    go_wp2_with (fail)
    go_quiet (fail)
    generalize hwq : World.drewN w2 _ = wq
    have HBZ : Hid (Below w.heap.size w wq) := by rw [← hwq]; exact below_drewN HB2.out _
    clear hwq
    go_wp2
    go_ret
    refine ⟨HBZ.out, _, rfl, ?_⟩
    rw [HNO.out]
    exact ⟨[], RowL.nil _ _ _, rfl⟩
  | some p =>
    obtain ⟨ns, l⟩ := p
    rw [hnu] at hpost
    obtain ⟨v2, rfl, hown⟩ := hpost
    obtain ⟨k, rfl, hkb, hno⟩ := ref_some (N := n) HNN.out hnu
    have hrow := RowL.of_owns (P := fun _ => True) hown fun _ _ => trivial
    obtain ⟨gk, ok, ck, rfl⟩ := hrow.some (by simp)
    have ck0 : w2.cell? ⟨gk, ok, none⟩ = some (.int .i64 (k : Int)) := by
      obtain ⟨g', o', c', x, h1, h2, h3⟩ := hrow.at1 (i := 0) (by simp)
      injection h1 with h1 _ _
      injection h1 with h1
      injection h1 with h1 h1'
      subst h1 h1'
      injection h2 with h2
      subst h2
      exact h3
    clear hown hnu
    by_cases hl : l = []
    · rw [if_pos hl] at hno
      subst hl
      by_cases hkM : k < M
      · have hk2 : (k : Int) < (M : Int) := by omega
        have hk0i : (0 : Int) ≤ (k : Int) := by omega
        have hwk : IntKind.i64.wrap (k : Int) = (k : Int) := by rw [IntKind.wrap_i64]; omega
        have hd1 : decide (M ≤ k) = false := decide_eq_false (by omega)
        have hil : k < n.length := by rw [HM.out]; exact hkM
        obtain ⟨gb, ob, cb, c, he1, hG1, hr1⟩ := HR2.out.atN oneNode HG2.out hil
        injection he1 with he1 hmid he1'
        subst he1 he1'
        clear hmid
        obtain ⟨x, hxx⟩ : ∃ x, n[k] = x := ⟨_, rfl⟩
        rw [hxx] at hG1
        rw [List.getElem?_eq_getElem hil, hxx] at hno
        have hxm : x ∈ n := by rw [← hxx]; exact List.getElem_mem hil
        have hks : x.arcs.length ≤ 2000000 := by
          have h3 := node_le hil
          have h4 := hsm.arcs
          rw [hxx] at h3
          omega
        obtain ⟨va, rfl, fx, rx, gx⟩ := hG1
        obtain ⟨ax, kx, rfl, _, _, _⟩ := rx.form
        have cN := hr1 0 _ rfl
        rw [Nat.add_zero] at cN
        have HNO := Lib.hid hno
        have HRX := Lib.hid rx
        have HGX := Lib.hid gx
        clear hxx rx gx hno hr1 hrow
        obtain ⟨K, hK⟩ : ∃ K, x.arcs.length = K := ⟨_, rfl⟩
        have HK := Lib.hid hK
        rw [hK] at cN hks
        clear hK
        go_wp2_with (fail)
        go_quiet (fail)
        go_wp2_with (fail)
        go_quiet (fail)
        go_wp2_with (fail)
        generalize hw3 : World.drewN (World.drewN w2 _) _ = w3
        have hb3 : Below w2.heap.size w2 w3 := by rw [← hw3]; exact below_drewN (below_drewN (Below.refl _ _) _) _
        have HB3 : Hid (Below w.heap.size w w3) := HB2.out.trans (hb3.mono HB2.out.size)
        have HRA := Lib.hid (HRX.out.up (Keep.below hb3))
        have HGA := Lib.hid (LsF.up (fun _ _ => oneArc.up (Keep.below hb3)) _ HGX.out)
        obtain ⟨S3, hS3⟩ : ∃ s, w3.heap.size = s := ⟨_, rfl⟩
        have HS3 := Lib.hid hS3
        have HN0 : Hid (NxO S3 w3 (x.arcs.zipIdx.take 0) (.slice none 0 0) w3) := by
          rw [← hS3]
          exact ⟨Below.refl _ _, Nat.le_refl _, [], ⟨rfl, .inl ⟨rfl, rfl⟩⟩, rfl⟩
        clear hw3 hb3 hS3 cN ck0 c2
        go_loopw [5, 9] (fun y z wr => ∃ (k : Nat) (vo : Value), y = vo ∧ z = .int .i64 (k : Int) ∧ k ≤ K ∧ Hid (NxO S3 w3 (x.arcs.zipIdx.take k) vo wr)) (fun _ z _ => K - (intOf z).toNat)
        case atStart => exact ⟨0, .slice none 0 0, rfl, rfl, Nat.zero_le _, HN0.out⟩
        case round =>
          clear HN0
          obtain ⟨k, vo, hvo, hz, hk, HNR⟩ := hrel
          subst hz
          subst hvo
          obtain ⟨fo, hro, hfo⟩ := HNR.out.row
          have hlo : (x.arcs.zipIdx.take k).length = k := by rw [List.length_take, List.length_zipIdx, HK.out]; omega
          obtain ⟨ao, co, hvo, hco, _⟩ := owns_form hro
          rw [hlo] at hvo hro
          subst hvo
          have HLO := Lib.hid hlo
          have HRO := Lib.hid hro
          have HFO := Lib.hid hfo
          have HSR : Hid (S3 ≤ wr.heap.size) := by have h4 := HNR.out.below.size; rw [HS3.out] at h4; exact h4
          have hbr : Below w3.heap.size w3 wr := HNR.out.below.mono (by rw [HS3.out]; exact Nat.le_refl _)
          have HBR := Lib.hid hbr
          clear hro hfo hlo hbr
          by_cases hkn : k < K
          · have hkl : k < x.arcs.length := by rw [HK.out]; exact hkn
            have hkz : k < x.arcs.zipIdx.length := by rw [List.length_zipIdx]; exact hkl
            have hi2k : (k : Int) < (K : Int) := by omega
            have hi0k : (0 : Int) ≤ (k : Int) := by omega
            have hwik : IntKind.i64.wrap (k : Int) = (k : Int) := by rw [IntKind.wrap_i64]; omega
            have hwjk : IntKind.i64.wrap ((k : Int) + 1) = (k : Int) + 1 := by rw [IntKind.wrap_i64]; omega
            obtain ⟨gb2, ob2, cb2, c, he2, hG2, hr2⟩ := (HRA.out.up (Keep.below HBR.out)).atN oneArc (LsF.up (fun _ _ => oneArc.up (Keep.below HBR.out)) _ HGA.out) hkl
            injection he2 with he2 hmid he2'
            subst he2 he2'
            clear hmid
            have hl1 := oneArc.len hG2
            have hs1 : (Try.prog.info? 55).map (·.size) = some c.length := by rw [hl1]; exact sz_Arc
            have HO1 := Lib.hid (oneArc.one hG2)
            have HZ := Lib.hid (Holds.new wr 55 #[.int .i64 0, .int .i64 0, .int .i64 0, .slice none 0 0, .slice none 0 0, .int .u64 0])
            have HR1 := Lib.hid hr2
            have HG1 := Lib.hid hG2
            clear hr2 hG2
            go_wp2_with (first | (refine wpList_load_mid rfl 55 _ rfl gb2 (ob2 + k * 6) rfl c _ HR1.out Try.underlying55 rfl hs1 ?_) | (refine wpList_storeB rfl 55 _ _ rfl wr.heap.size 0 c rfl rfl HZ.out (by rw [hl1]; exact Nat.le_of_ble_eq_true rfl) hs1 HO1.out ?_))
            refine Named.mk (fun w7 hW7 => ?_)
            have hB7 : Below wr.heap.size wr w7 := by rw [hW7]; exact Below.far (Below.refl _ _) (Nat.le_refl _) _ _ _
            have hD7 := HZ.out.stored hW7 (by rw [hl1]; exact Nat.le_of_ble_eq_true rfl)
            rw [List.take_zero, List.nil_append, List.drop_of_length_le (by rw [hl1]; exact Nat.le_of_ble_eq_true rfl), List.append_nil] at hD7
            have hG7 := oneArc.up (Keep.below hB7) HG1.out
            have HB7 := Lib.hid hB7
            obtain ⟨a, ha⟩ : ∃ a, x.arcs[k] = a := ⟨_, rfl⟩
            rw [ha] at hG7
            have HAA := Lib.hid ha
            have HSM := Lib.hid (hsm.mem hxm (a := a) (by rw [← ha]; exact List.getElem_mem hkl))
            have HTA := Lib.hid (hto x hxm a (by rw [← ha]; exact List.getElem_mem hkl))
            obtain ⟨vr, vw, rfl, pr, pw⟩ := hG7
            have HY7 := Lib.hid hD7
            have HPR := Lib.hid pr
            have HPW := Lib.hid pw
            have HLR := Lib.hid HSM.out.1
            have HLW := Lib.hid HSM.out.2
            have HSZ7 : Hid (wr.heap.size ≤ w7.heap.size) := HB7.out.size
            clear hW7 hB7 hD7 HZ hs1 hl1 HO1 HR1 HG1 ha pr pw
            obtain ⟨Y, hYY⟩ : ∃ Y, wr.heap.size = Y := ⟨_, rfl⟩
            have HYE := Lib.hid hYY
            rw [hYY] at HY7 ⊢
            clear hYY
            go_wp2_with (fail)
            refine wp_region_rho (fun (r : Value × Value × Nat) j => ([(.pointer (some ⟨Y, 0, none⟩)), (.int .i64 a.proc), (.int .i64 (k : Int)), (.pointer (some ⟨Y, 2, none⟩)), (.int .i64 a.bad), (.pointer (some ⟨Y, 3, none⟩)), (vr), (r.1), (.pointer (some ⟨Y, 4, none⟩)), (vw), (r.2.1), (.pointer (some ⟨Y, 5, none⟩)), (.int .u64 (a.turns : Int)), (.agg (mvC k a ⟨#[]⟩ r.1 r.2.1).toArray), (.pointer (some ⟨r.2.2, 0, none⟩)), (undef)] : List Value).getD j undef) (fun r L w2 => ItW w7 a k r L w2) [(0, 46), (1, 47), (2, 48), (3, 49), (4, 50), (5, 51), (6, 52), (7, 53), (8, 54), (9, 55), (10, 56), (11, 57), (12, 58), (13, 59), (14, 11)] 73 rfl (by kernel_rfl) (by kernel_rfl) (by kernel_rfl) (.slice none 0 0, .slice none 0 0, 0) ⟨(Fr.refl (fun _ => False) w7).drew.to_below (Nat.le_refl _) (fun _ _ h => h), (fun h => by simp at h), (fun h => by simp at h), (fun h => by simp at h), (fun h => by simp at h), (fun h => by simp at h)⟩ (fun i hi => ?_) (fun r w9 hW9 => ?_)
            · have hi2 : i < 16 := hi
              clear hi
              have hi3 : i = 0 ∨ i = 1 ∨ i = 2 ∨ i = 3 ∨ i = 4 ∨ i = 5 ∨ i = 6 ∨ i = 7 ∨ i = 8 ∨ i = 9 ∨ i = 10 ∨ i = 11 ∨ i = 12 ∨ i = 13 ∨ i = 14 ∨ i = 15 := by omega
              clear hi2
              rcases hi3 with rfl | rfl | rfl | rfl | rfl | rfl | rfl | rfl | rfl | rfl | rfl | rfl | rfl | rfl | rfl | rfl
              · exact RhoOp.pure rfl (fun r L b w2 hl hR hW => by
                  have h7 : b.eval (.tmp 10) = .pointer (some ⟨Y, 0, none⟩) := (hR.old (by decide) (by kernel_rfl)).trans rfl
                  simp only [Act.eval, Array.getD_eq_getD_getElem?] at h7
                  show (execOp b.eval _).run _ _ = .ok (.value (.pointer (some ⟨Y, 0, none⟩))) _
                  unfold execOp
                  simp [go_sem, h7]) (fun r L w2 hs h => h.pure 0 (by decide) (by decide) (by decide) (by decide) (by decide))
              · exact RhoOp.pure rfl (fun r L b w2 hl hR hW => by
                  have e : w2.cell? ⟨Y, 0, none⟩ = some (.int .i64 a.proc) := ((HY7.out.belowAll hW.below).cell 0).trans rfl
                  have h23 : b.eval (.tmp 46) = .pointer (some ⟨Y, 0, none⟩) := hR.of (j := 0) (by decide) (by kernel_rfl)
                  simp only [Act.eval, Array.getD_eq_getD_getElem?] at h23
                  show (execOp b.eval _).run _ _ = .ok (.value (.int .i64 a.proc)) _
                  unfold execOp
                  simp [go_sem, h23, e]) (fun r L w2 hs h => h.pure 1 (by decide) (by decide) (by decide) (by decide) (by decide))
              · exact RhoOp.pure rfl (fun r L b w2 hl hR hW => by
                  have h6 : b.eval (.tmp 9) = .int .i64 (k : Int) := (hR.old (by decide) (by kernel_rfl)).trans rfl
                  simp only [Act.eval, Array.getD_eq_getD_getElem?] at h6
                  show (execOp b.eval _).run _ _ = .ok (.value (.int .i64 (k : Int))) _
                  unfold execOp
                  simp [go_sem, h6]) (fun r L w2 hs h => h.pure 2 (by decide) (by decide) (by decide) (by decide) (by decide))
              · exact RhoOp.pure rfl (fun r L b w2 hl hR hW => by
                  have h7 : b.eval (.tmp 10) = .pointer (some ⟨Y, 0, none⟩) := (hR.old (by decide) (by kernel_rfl)).trans rfl
                  simp only [Act.eval, Array.getD_eq_getD_getElem?] at h7
                  show (execOp b.eval _).run _ _ = .ok (.value (.pointer (some ⟨Y, 2, none⟩))) _
                  unfold execOp
                  simp [go_sem, h7]) (fun r L w2 hs h => h.pure 3 (by decide) (by decide) (by decide) (by decide) (by decide))
              · exact RhoOp.pure rfl (fun r L b w2 hl hR hW => by
                  have e : w2.cell? ⟨Y, 2, none⟩ = some (.int .i64 a.bad) := ((HY7.out.belowAll hW.below).cell 2).trans rfl
                  have h26 : b.eval (.tmp 49) = .pointer (some ⟨Y, 2, none⟩) := hR.of (j := 3) (by decide) (by kernel_rfl)
                  simp only [Act.eval, Array.getD_eq_getD_getElem?] at h26
                  show (execOp b.eval _).run _ _ = .ok (.value (.int .i64 a.bad)) _
                  unfold execOp
                  simp [go_sem, h26, e]) (fun r L w2 hs h => h.pure 4 (by decide) (by decide) (by decide) (by decide) (by decide))
              · exact RhoOp.pure rfl (fun r L b w2 hl hR hW => by
                  have h7 : b.eval (.tmp 10) = .pointer (some ⟨Y, 0, none⟩) := (hR.old (by decide) (by kernel_rfl)).trans rfl
                  simp only [Act.eval, Array.getD_eq_getD_getElem?] at h7
                  show (execOp b.eval _).run _ _ = .ok (.value (.pointer (some ⟨Y, 3, none⟩))) _
                  unfold execOp
                  simp [go_sem, h7]) (fun r L w2 hs h => h.pure 5 (by decide) (by decide) (by decide) (by decide) (by decide))
              · exact RhoOp.pure rfl (fun r L b w2 hl hR hW => by
                  have e : w2.cell? ⟨Y, 3, none⟩ = some (vr) := ((HY7.out.belowAll hW.below).cell 3).trans rfl
                  have h28 : b.eval (.tmp 51) = .pointer (some ⟨Y, 3, none⟩) := hR.of (j := 5) (by decide) (by kernel_rfl)
                  simp only [Act.eval, Array.getD_eq_getD_getElem?] at h28
                  show (execOp b.eval _).run _ _ = .ok (.value (vr)) _
                  unfold execOp
                  simp [go_sem, h28, e]) (fun r L w2 hs h => h.pure 6 (by decide) (by decide) (by decide) (by decide) (by decide))
              · exact RhoOp.call (f := 35) rfl (fun r L b w2 hs hl hR hW => by
                  have h29 : b.eval (.tmp 52) = vr := hR.of (j := 6) (by decide) (by kernel_rfl)
                  simp only [Act.eval, Array.getD_eq_getD_getElem?] at h29
                  refine ⟨#[vr], ?_, ?_⟩
                  · unfold execOp
                    simp [go_sem, h29]
                  · have h15 : L.getD 15 false = false := by
                      cases hq : L.getD 15 false with
                      | false => rfl
                      | true => have := (hW.o15 hq).1; rw [hl] at this; cases this
                    refine (copiesFn (HPR.out.up (Keep.below hW.below)) HLR.out).mono fun e w4 h => ?_
                    obtain ⟨hb, v, he, hv1⟩ := h
                    refine ⟨(v, r.2), fun j hj => ?_, he, ⟨hW.below.trans (hb.mono hW.below.size), ?_, ?_, ?_, ?_, ?_⟩⟩
                    · match j, hj with
                      | 7, hj => rw [hl] at hj; cases hj
                      | 0, _ => rfl
                      | 1, _ => rfl
                      | 2, _ => rfl
                      | 3, _ => rfl
                      | 4, _ => rfl
                      | 5, _ => rfl
                      | 6, _ => rfl
                      | 8, _ => rfl
                      | 9, _ => rfl
                      | 10, _ => rfl
                      | 11, _ => rfl
                      | 12, _ => rfl
                      | 13, hj => have := (hW.o13 hj).1; rw [hl] at this; cases this
                      | 14, _ => rfl
                      | 15, _ => rfl
                      | j + 16, _ => rfl
                    · exact fun _ => hv1.wide hW.below.size
                    · intro q
                      rw [gd_ne (by decide)] at q
                      exact (hW.writes q).below hb
                    · intro q
                      rw [gd_ne (by decide)] at q
                      obtain ⟨q1, q2⟩ := hW.box q
                      refine ⟨q1, ?_⟩
                      rw [gd_ne (by decide), h15]
                      rw [h15] at q2
                      exact q2.belowAll hb
                    · intro q
                      rw [gd_ne (by decide)] at q
                      obtain ⟨q1, q2⟩ := hW.o13 q
                      exact ⟨by first | (rw [gd_ne (by decide)]; exact q1) | exact gd_eq (by rw [hs]; decide), by first | (rw [gd_ne (by decide)]; exact q2) | exact gd_eq (by rw [hs]; decide)⟩
                    · intro q
                      rw [gd_ne (by decide), h15] at q; cases q)
              · exact RhoOp.pure rfl (fun r L b w2 hl hR hW => by
                  have h7 : b.eval (.tmp 10) = .pointer (some ⟨Y, 0, none⟩) := (hR.old (by decide) (by kernel_rfl)).trans rfl
                  simp only [Act.eval, Array.getD_eq_getD_getElem?] at h7
                  show (execOp b.eval _).run _ _ = .ok (.value (.pointer (some ⟨Y, 4, none⟩))) _
                  unfold execOp
                  simp [go_sem, h7]) (fun r L w2 hs h => h.pure 8 (by decide) (by decide) (by decide) (by decide) (by decide))
              · exact RhoOp.pure rfl (fun r L b w2 hl hR hW => by
                  have e : w2.cell? ⟨Y, 4, none⟩ = some (vw) := ((HY7.out.belowAll hW.below).cell 4).trans rfl
                  have h31 : b.eval (.tmp 54) = .pointer (some ⟨Y, 4, none⟩) := hR.of (j := 8) (by decide) (by kernel_rfl)
                  simp only [Act.eval, Array.getD_eq_getD_getElem?] at h31
                  show (execOp b.eval _).run _ _ = .ok (.value (vw)) _
                  unfold execOp
                  simp [go_sem, h31, e]) (fun r L w2 hs h => h.pure 9 (by decide) (by decide) (by decide) (by decide) (by decide))
              · exact RhoOp.call (f := 35) rfl (fun r L b w2 hs hl hR hW => by
                  have h32 : b.eval (.tmp 55) = vw := hR.of (j := 9) (by decide) (by kernel_rfl)
                  simp only [Act.eval, Array.getD_eq_getD_getElem?] at h32
                  refine ⟨#[vw], ?_, ?_⟩
                  · unfold execOp
                    simp [go_sem, h32]
                  · have h15 : L.getD 15 false = false := by
                      cases hq : L.getD 15 false with
                      | false => rfl
                      | true => have := (hW.o15 hq).2.1; rw [hl] at this; cases this
                    refine (copiesFn (HPW.out.up (Keep.below hW.below)) HLW.out).mono fun e w4 h => ?_
                    obtain ⟨hb, v, he, hv1⟩ := h
                    refine ⟨(r.1, v, r.2.2), fun j hj => ?_, he, ⟨hW.below.trans (hb.mono hW.below.size), ?_, ?_, ?_, ?_, ?_⟩⟩
                    · match j, hj with
                      | 10, hj => rw [hl] at hj; cases hj
                      | 0, _ => rfl
                      | 1, _ => rfl
                      | 2, _ => rfl
                      | 3, _ => rfl
                      | 4, _ => rfl
                      | 5, _ => rfl
                      | 6, _ => rfl
                      | 7, _ => rfl
                      | 8, _ => rfl
                      | 9, _ => rfl
                      | 11, _ => rfl
                      | 12, _ => rfl
                      | 13, hj => have := (hW.o13 hj).2; rw [hl] at this; cases this
                      | 14, _ => rfl
                      | 15, _ => rfl
                      | j + 16, _ => rfl
                    · intro q
                      rw [gd_ne (by decide)] at q
                      exact (hW.reads q).below hb
                    · exact fun _ => hv1.wide hW.below.size
                    · intro q
                      rw [gd_ne (by decide)] at q
                      obtain ⟨q1, q2⟩ := hW.box q
                      refine ⟨q1, ?_⟩
                      rw [gd_ne (by decide), h15]
                      rw [h15] at q2
                      exact q2.belowAll hb
                    · intro q
                      rw [gd_ne (by decide)] at q
                      obtain ⟨q1, q2⟩ := hW.o13 q
                      exact ⟨by first | (rw [gd_ne (by decide)]; exact q1) | exact gd_eq (by rw [hs]; decide), by first | (rw [gd_ne (by decide)]; exact q2) | exact gd_eq (by rw [hs]; decide)⟩
                    · intro q
                      rw [gd_ne (by decide), h15] at q; cases q)
              · exact RhoOp.pure rfl (fun r L b w2 hl hR hW => by
                  have h7 : b.eval (.tmp 10) = .pointer (some ⟨Y, 0, none⟩) := (hR.old (by decide) (by kernel_rfl)).trans rfl
                  simp only [Act.eval, Array.getD_eq_getD_getElem?] at h7
                  show (execOp b.eval _).run _ _ = .ok (.value (.pointer (some ⟨Y, 5, none⟩))) _
                  unfold execOp
                  simp [go_sem, h7]) (fun r L w2 hs h => h.pure 11 (by decide) (by decide) (by decide) (by decide) (by decide))
              · exact RhoOp.pure rfl (fun r L b w2 hl hR hW => by
                  have e : w2.cell? ⟨Y, 5, none⟩ = some (.int .u64 (a.turns : Int)) := ((HY7.out.belowAll hW.below).cell 5).trans rfl
                  have h34 : b.eval (.tmp 57) = .pointer (some ⟨Y, 5, none⟩) := hR.of (j := 11) (by decide) (by kernel_rfl)
                  simp only [Act.eval, Array.getD_eq_getD_getElem?] at h34
                  show (execOp b.eval _).run _ _ = .ok (.value (.int .u64 (a.turns : Int))) _
                  unfold execOp
                  simp [go_sem, h34, e]) (fun r L w2 hs h => h.pure 12 (by decide) (by decide) (by decide) (by decide) (by decide))
              · exact RhoOp.make rfl (fun r L b w2 hs hl hR hW => by
                  have h7 := hR.on (j := 7) (by kernel_rfl)
                  have h10 := hR.on (j := 10) (by kernel_rfl)
                  obtain ⟨a1, c1, e1, _⟩ := (hW.reads h7).2.form
                  obtain ⟨a2, c2, e2, _⟩ := (hW.writes h10).2.form
                  have h24 : b.eval (.tmp 47) = .int .i64 a.proc := hR.of (j := 1) (by decide) (by kernel_rfl)
                  have h25 : b.eval (.tmp 48) = .int .i64 (k : Int) := hR.of (j := 2) (by decide) (by kernel_rfl)
                  have h27 : b.eval (.tmp 50) = .int .i64 a.bad := hR.of (j := 4) (by decide) (by kernel_rfl)
                  have h30 : b.eval (.tmp 53) = r.1 := hR.of (j := 7) (by decide) (by kernel_rfl)
                  have h33 : b.eval (.tmp 56) = r.2.1 := hR.of (j := 10) (by decide) (by kernel_rfl)
                  have h35 : b.eval (.tmp 58) = .int .u64 (a.turns : Int) := hR.of (j := 12) (by decide) (by kernel_rfl)
                  simp only [Act.eval, Array.getD_eq_getD_getElem?] at h24 h25 h27 h30 h33 h35
                  refine ⟨r, w2, ?_, ?_, ?_⟩
                  · exact fun _ _ => rfl
                  · show (execOp b.eval _).run _ _ = .ok (.value (.agg (mvC k a ⟨#[]⟩ (r).1 (r).2.1).toArray)) _
                    unfold execOp
                    simp [go_sem, h24, h25, h27, h30, h33, h35, e1, e2, mvC]
                  · refine ⟨hW.below, ?_, ?_, ?_, ?_, ?_⟩
                    · rw [gd_ne (by decide)]; exact hW.reads
                    · rw [gd_ne (by decide)]; exact hW.writes
                    · rw [gd_ne (by decide), gd_ne (by decide)]; exact hW.box
                    · intro _
                      rw [gd_ne (by decide), gd_ne (by decide)]
                      exact ⟨h7, h10⟩
                    · rw [gd_ne (by decide), gd_ne (by decide), gd_ne (by decide), gd_ne (by decide)]; exact hW.o15)
              · exact RhoOp.make rfl (fun r L b w2 hs hl hR hW => by
                  refine ⟨(r.1, r.2.1, w2.heap.size), w2.alloc (.cells #[.int .i64 0, .int .i64 0, .int .i64 0, .int .i64 0, .string ⟨#[]⟩, .int .i64 0, .slice none 0 0, .slice none 0 0, .int .u64 0] 79), ?_, ?_, ?_⟩
                  · exact fun j hj => match j, hj with | 14, hj => (by rw [hl] at hj; cases hj) | 0, _ => rfl | 1, _ => rfl | 2, _ => rfl | 3, _ => rfl | 4, _ => rfl | 5, _ => rfl | 6, _ => rfl | 7, _ => rfl | 8, _ => rfl | 9, _ => rfl | 10, _ => rfl | 11, _ => rfl | 12, _ => rfl | 13, _ => rfl | 15, _ => rfl | j + 16, _ => rfl
                  · show (execOp b.eval _).run _ _ = .ok (.value (.pointer (some ⟨((r.1, r.2.1, w2.heap.size)).2.2, 0, none⟩))) _
                    unfold execOp
                    simp [go_sem, ]
                  · have hb : Below w2.heap.size w2 (w2.alloc (.cells #[.int .i64 0, .int .i64 0, .int .i64 0, .int .i64 0, .string ⟨#[]⟩, .int .i64 0, .slice none 0 0, .slice none 0 0, .int .u64 0] 79)) := (Below.refl _ _).alloc (Nat.le_refl _) _
                    have h15 : L.getD 15 false = false := by
                      cases hq : L.getD 15 false with
                      | false => rfl
                      | true => have := (hW.o15 hq).2.2; rw [hl] at this; cases this
                    refine ⟨hW.below.trans (hb.mono hW.below.size), ?_, ?_, ?_, ?_, ?_⟩
                    · intro q
                      rw [gd_ne (by decide)] at q
                      exact (hW.reads q).below hb
                    · intro q
                      rw [gd_ne (by decide)] at q
                      exact (hW.writes q).below hb
                    · intro _
                      refine ⟨hW.below.size, ?_⟩
                      rw [gd_ne (by decide), h15]
                      exact Holds.new w2 79 #[.int .i64 0, .int .i64 0, .int .i64 0, .int .i64 0, .string ⟨#[]⟩, .int .i64 0, .slice none 0 0, .slice none 0 0, .int .u64 0]
                    · rw [gd_ne (by decide), gd_ne (by decide), gd_ne (by decide)]; exact hW.o13
                    · intro q
                      rw [gd_ne (by decide), h15] at q; cases q)
              · exact RhoOp.store rfl rfl (fun r L b w2 hs hl hR hW => by
                  have h7 := hR.on (j := 7) (by kernel_rfl)
                  have h10 := hR.on (j := 10) (by kernel_rfl)
                  have h14 := hR.on (j := 14) (by kernel_rfl)
                  obtain ⟨hge, hbx⟩ := hW.box h14
                  rw [hl] at hbx
                  have hone : (mvC k a ⟨#[]⟩ r.1 r.2.1).all (·.oneCell') = true := by
                    have q1 := (hW.reads h7).2.cell1
                    have q2 := (hW.writes h10).2.cell1
                    simp [mvC, q1, q2]
                    simp [Value.oneCell']
                  have hst := storeN (P := Try.prog) (ty := 79) (xs := mvC k a ⟨#[]⟩ r.1 r.2.1) (i := 0) hbx (Nat.le_of_ble_eq_true rfl) sz_Move hone
                  have h8 : b.eval (.tmp 11) = .pointer (some ⟨r.2.2, 0, none⟩) := hR.of (j := 14) (by decide) (by kernel_rfl)
                  have h36 : b.eval (.tmp 59) = .agg (mvC k a ⟨#[]⟩ r.1 r.2.1).toArray := hR.of (j := 13) (by decide) (by kernel_rfl)
                  simp only [Act.eval, Array.getD_eq_getD_getElem?] at h8 h36
                  refine ⟨r, setR w2 r.2.2 0 (mvC k a ⟨#[]⟩ r.1 r.2.1), fun _ _ => rfl, ?_, ?_⟩
                  · show (execOp b.eval _).run _ _ = .ok .skip _
                    unfold execOp
                    simp [Act.eval, h8, h36, Sem.run_bind, hst]
                  · have hfr := Fr.setRX r.2.2 (mvC k a ⟨#[]⟩ r.1 r.2.1) 0 w2
                    have hbl : Below w7.heap.size w7 (setR w2 r.2.2 0 (mvC k a ⟨#[]⟩ r.1 r.2.1)) := hW.below.trans (hfr.to_below hW.below.size fun q hq e => by omega)
                    refine ⟨hbl, ?_, ?_, ?_, ?_, ?_⟩
                    · intro _
                      exact (hW.reads h7).store hbx hfr
                    · intro _
                      exact (hW.writes h10).store hbx hfr
                    · intro _
                      refine ⟨hge, ?_⟩
                      rw [gd_eq (by rw [hs]; decide), if_pos rfl]
                      have := hbx.stored (W' := setR w2 r.2.2 0 (mvC k a ⟨#[]⟩ r.1 r.2.1)) rfl (Nat.le_of_ble_eq_true rfl)
                      exact this
                    · rw [gd_ne (by decide), gd_ne (by decide), gd_ne (by decide)]; exact hW.o13
                    · intro _
                      refine ⟨?_, ?_, ?_⟩ <;> rw [gd_ne (by decide)] <;> first | exact h7 | exact h10 | exact h14)
            · refine puts_as (ps := [(0, 46, .pointer (some ⟨Y, 0, none⟩)), (1, 47, .int .i64 a.proc), (2, 48, .int .i64 (k : Int)), (3, 49, .pointer (some ⟨Y, 2, none⟩)), (4, 50, .int .i64 a.bad), (5, 51, .pointer (some ⟨Y, 3, none⟩)), (6, 52, vr), (7, 53, r.1), (8, 54, .pointer (some ⟨Y, 4, none⟩)), (9, 55, vw), (10, 56, r.2.1), (11, 57, .pointer (some ⟨Y, 5, none⟩)), (12, 58, .int .u64 (a.turns : Int)), (13, 59, .agg (mvC k a ⟨#[]⟩ r.1 r.2.1).toArray), (14, 11, .pointer (some ⟨r.2.2, 0, none⟩))]) rfl ?_
              simp only [puts, Act.put, List.setIfInBounds_toArray, List.set_cons_zero, List.set_cons_succ]
              obtain ⟨vr2, vw2, g8⟩ := r
              have hbl := hW9.below
              have hre := hW9.reads rfl
              have hwr := hW9.writes rfl
              obtain ⟨hge, hm⟩ := hW9.box rfl
              have hm : Holds w9 g8 79 (mvC k a ⟨#[]⟩ vr2 vw2) := hm
              obtain ⟨p1, p2, rfl, _, _, _⟩ := hre.2.form
              obtain ⟨p3, p4, rfl, _, _, _⟩ := hwr.2.form
              have HG8 : Hid (wr.heap.size ≤ g8) := Nat.le_trans HB7.out.size hge
              have HB9 : Hid (Below wr.heap.size wr w9) := HB7.out.trans (hbl.mono HB7.out.size)
              have HRE := Lib.hid hre
              have HWR := Lib.hid hwr
              have HM9 := Lib.hid hm
              obtain ⟨i0, z0, hi0, hz0, hz1, hz2, hz3⟩ := info_of info_move
              have f1 := (HY7.out.belowAll hbl).cell 1
              have f2 := (HY7.out.belowAll hbl).cell 2
              simp only [List.getElem?_cons_zero, List.getElem?_cons_succ] at f1 f2
              clear hW9 hbl hre hwr hge hm
              dsimp only
              by_cases hbad : a.bad = 0
              · have d0 : (a.bad == 0) = true := by simpa using hbad
                obtain ⟨m, hmt⟩ : ∃ m : Nat, a.to = (m : Int) := ⟨a.to.toNat, by have := HTA.out; omega⟩
                have HSS : Hid (keyS m = toS a) := by
                  show _ = _
                  unfold toS
                  rw [if_pos hbad, hmt]
                  rfl
                have hm63 : m < 9223372036854775808 := by have := HTA.out; omega
                have HM63 := Lib.hid hm63
                rw [hmt] at f1
                have hrw : RowL (fun _ => True) (w9.alloc (.cells #[.int .i64 (m : Int)] 3)) 1 (.slice (some ⟨w9.heap.size, 0, none⟩) 1 1) 1 [.int .i64 (m : Int)] := RowL.of_holds (n := 1) (Holds.new w9 3 #[.int .i64 (m : Int)]) trivial (by omega) rfl
                have HCB := Lib.hid (refBytesFn hrw hm63)
                have HBA : Hid (Below w9.heap.size w9 (w9.alloc (.cells #[.int .i64 (m : Int)] 3))) := (Below.refl _ _).alloc (Nat.le_refl _) _
                clear hbad hmt hm63 hrw
                go_wp2_with (fail)
                refine HCB.out.mono ?_
                rintro e w10 ⟨rfl, hb10⟩
                have hb11 := HBA.out.trans (hb10.mono HBA.out.size)
                have HM10 := Lib.hid (HM9.out.belowAll hb11)
                have HB11 := Lib.hid hb11
                clear HCB hb10 hb11 f1 f2
                go_wp2_with (refine wpList_store1 rfl 9 _ _ rfl g8 4 (.string (keyS m)) rfl rfl HM10.out (Nat.le_of_ble_eq_true rfl) sz_Str rfl rfl ?_)
                refine Named.mk (fun wz hWz => ?_)
                have hmz := HM10.out.stored hWz (Nat.le_of_ble_eq_true rfl)
                have HM4 : Hid (Holds wz g8 79 (mvC k a (keyS m) (.slice p1 a.reads.length p2) (.slice p3 a.writes.length p4))) := hmz
                have hfr : Fr (fun q => q = g8) w10 wz := by rw [hWz]; exact Fr.setRX g8 _ 4 w10
                have HBC : Hid (Below wr.heap.size wr wz) := (HB9.out.trans (HB11.out.mono HB9.out.size)).trans (hfr.to_below (Nat.le_trans HB9.out.size HB11.out.size) fun q hq e => by have := HG8.out; omega)
                have HRE4 := Lib.hid ((HRE.out.below HB11.out).store HM10.out hfr)
                have HWR4 := Lib.hid ((HWR.out.below HB11.out).store HM10.out hfr)
                clear hmz hWz hfr HM10 HB11 HBA HM9 HRE HWR
                have HMZ : Hid (Holds wz g8 79 ([.int .i64 a.proc, .int .i64 (k : Int), .int .i64 (-1), .int .i64 (-1), .string (keyS m), .int .i64 a.bad, .slice p1 a.reads.length p2, .slice p3 a.writes.length p4, .int .u64 (a.turns : Int)])) := HM4.out
                have HRG := Lib.hid (HMZ.out.range (i := 0) (n := 9) (xs := [.int .i64 a.proc, .int .i64 (k : Int), .int .i64 (-1), .int .i64 (-1), .string (keyS m), .int .i64 a.bad, .slice p1 a.reads.length p2, .slice p3 a.writes.length p4, .int .u64 (a.turns : Int)]) rfl)
                have HMF : Hid (MovF (fun q => wr.heap.size ≤ q) wz (a, k) ([.int .i64 a.proc, .int .i64 (k : Int), .int .i64 (-1), .int .i64 (-1), .string (keyS m), .int .i64 a.bad, .slice p1 a.reads.length p2, .slice p3 a.writes.length p4, .int .u64 (a.turns : Int)])) := ⟨.slice p1 a.reads.length p2, .slice p3 a.writes.length p4, by show _ = mvC k a (toS a) _ _; rw [← HSS.out]; rfl, (HRE4.out.wide HSZ7.out).2, (HWR4.out.wide HSZ7.out).2⟩
                have HB8 : Hid (Below wr.heap.size wr wz) := HBC.out
                clear HM4 HRE4 HWR4
                go_wp2_with (first | (refine wpList_load_mid rfl 79 _ rfl g8 0 rfl ([.int .i64 a.proc, .int .i64 (k : Int), .int .i64 (-1), .int .i64 (-1), .string (keyS m), .int .i64 a.bad, .slice p1 a.reads.length p2, .slice p3 a.writes.length p4, .int .u64 (a.turns : Int)]) _ HRG.out Try.underlying79 rfl sz_Move ?_) | (refine halt_call2 { callee := .builtin .append, args := #[.tmp 68, .tmp 70], argTypes := #[36, 36] } rfl ?_))
                refine Stop.mk ?_
                refine wpList_append_own_at _ rfl (.tmp 68) (.tmp 70) _ rfl S3 79 i0 z0 9 112 Try.underlying36 hi0 hz0 hz1 hz2 hz3 (by omega) (.slice ao k co) k fo rfl (owns_below (owns_below HRO.out HB8.out) ((Below.refl _ _).alloc (Nat.le_refl _) _)) ⟨wz.heap.size, 0, none⟩ 1 1 ([.int .i64 a.proc, .int .i64 (k : Int), .int .i64 (-1), .int .i64 (-1), .string (keyS m), .int .i64 a.bad, .slice p1 a.reads.length p2, .slice p3 a.writes.length p4, .int .u64 (a.turns : Int)]) rfl rfl ?c1 ?c2 ?c3 ?c4 ?c5 ?_
                case c1 => exact fun jj u hu => by rw [Addr.add_lit, Nat.zero_add]; exact ((Holds.new wz 79 ([.int .i64 a.proc, .int .i64 (k : Int), .int .i64 (-1), .int .i64 (-1), .string (keyS m), .int .i64 a.bad, .slice p1 a.reads.length p2, .slice p3 a.writes.length p4, .int .u64 (a.turns : Int)] : List Value).toArray).cell jj).trans hu
                case c2 => exact List.all_eq_true.1 (oneMov.one HMF.out)
                case c3 => unfold maxLen; omega
                case c4 => omega
                case c5 => have := HB8.out.size; have := HSR.out; simp; omega
                intro v' W9 hown hgrow _ hblk
                have HNX : Hid (NxO S3 w3 (x.arcs.zipIdx.take (k + 1)) v' W9) := by
                  show NxO _ _ _ _ _
                  rw [List.take_add_one, List.getElem?_eq_getElem hkz, zip_at hkl, HAA.out]
                  exact HNR.out.app (by rw [HLO.out]; exact HRO.out) HFO.out HB8.out HMF.out (by rw [HLO.out]; exact hown) hgrow hblk
                clear hown hgrow hblk HRG HMZ HMF HB8
                go_wp2
                go_roundw
                case rel => exact ⟨k + 1, v', rfl, by simp, by omega, HNX.out⟩
                case measure => (simp [intOf]) <;> omega
              · have d0 : (a.bad == 0) = false := by simpa using hbad
                have HSS : Hid ((⟨#[]⟩ : ByteArray) = toS a) := by
                  show _ = _
                  unfold toS
                  rw [if_neg hbad]
                have HM4 := HM9
                have HBC := HB9
                have HRE4 := HRE
                have HWR4 := HWR
                clear hbad
                have HMZ : Hid (Holds w9 g8 79 ([.int .i64 a.proc, .int .i64 (k : Int), .int .i64 (-1), .int .i64 (-1), .string ⟨#[]⟩, .int .i64 a.bad, .slice p1 a.reads.length p2, .slice p3 a.writes.length p4, .int .u64 (a.turns : Int)])) := HM4.out
                have HRG := Lib.hid (HMZ.out.range (i := 0) (n := 9) (xs := [.int .i64 a.proc, .int .i64 (k : Int), .int .i64 (-1), .int .i64 (-1), .string ⟨#[]⟩, .int .i64 a.bad, .slice p1 a.reads.length p2, .slice p3 a.writes.length p4, .int .u64 (a.turns : Int)]) rfl)
                have HMF : Hid (MovF (fun q => wr.heap.size ≤ q) w9 (a, k) ([.int .i64 a.proc, .int .i64 (k : Int), .int .i64 (-1), .int .i64 (-1), .string ⟨#[]⟩, .int .i64 a.bad, .slice p1 a.reads.length p2, .slice p3 a.writes.length p4, .int .u64 (a.turns : Int)])) := ⟨.slice p1 a.reads.length p2, .slice p3 a.writes.length p4, by show _ = mvC k a (toS a) _ _; rw [← HSS.out]; rfl, (HRE4.out.wide HSZ7.out).2, (HWR4.out.wide HSZ7.out).2⟩
                have HB8 : Hid (Below wr.heap.size wr w9) := HBC.out
                clear HM4 HRE4 HWR4
                go_wp2_with (first | (refine wpList_load_mid rfl 79 _ rfl g8 0 rfl ([.int .i64 a.proc, .int .i64 (k : Int), .int .i64 (-1), .int .i64 (-1), .string ⟨#[]⟩, .int .i64 a.bad, .slice p1 a.reads.length p2, .slice p3 a.writes.length p4, .int .u64 (a.turns : Int)]) _ HRG.out Try.underlying79 rfl sz_Move ?_) | (refine halt_call2 { callee := .builtin .append, args := #[.tmp 68, .tmp 70], argTypes := #[36, 36] } rfl ?_))
                refine Stop.mk ?_
                refine wpList_append_own_at _ rfl (.tmp 68) (.tmp 70) _ rfl S3 79 i0 z0 9 112 Try.underlying36 hi0 hz0 hz1 hz2 hz3 (by omega) (.slice ao k co) k fo rfl (owns_below (owns_below HRO.out HB8.out) ((Below.refl _ _).alloc (Nat.le_refl _) _)) ⟨w9.heap.size, 0, none⟩ 1 1 ([.int .i64 a.proc, .int .i64 (k : Int), .int .i64 (-1), .int .i64 (-1), .string ⟨#[]⟩, .int .i64 a.bad, .slice p1 a.reads.length p2, .slice p3 a.writes.length p4, .int .u64 (a.turns : Int)]) rfl rfl ?c1 ?c2 ?c3 ?c4 ?c5 ?_
                case c1 => exact fun jj u hu => by rw [Addr.add_lit, Nat.zero_add]; exact ((Holds.new w9 79 ([.int .i64 a.proc, .int .i64 (k : Int), .int .i64 (-1), .int .i64 (-1), .string ⟨#[]⟩, .int .i64 a.bad, .slice p1 a.reads.length p2, .slice p3 a.writes.length p4, .int .u64 (a.turns : Int)] : List Value).toArray).cell jj).trans hu
                case c2 => exact List.all_eq_true.1 (oneMov.one HMF.out)
                case c3 => unfold maxLen; omega
                case c4 => omega
                case c5 => have := HB8.out.size; have := HSR.out; simp; omega
                intro v' W9 hown hgrow _ hblk
                have HNX : Hid (NxO S3 w3 (x.arcs.zipIdx.take (k + 1)) v' W9) := by
                  show NxO _ _ _ _ _
                  rw [List.take_add_one, List.getElem?_eq_getElem hkz, zip_at hkl, HAA.out]
                  exact HNR.out.app (by rw [HLO.out]; exact HRO.out) HFO.out HB8.out HMF.out (by rw [HLO.out]; exact hown) hgrow hblk
                clear hown hgrow hblk HRG HMZ HMF HB8
                go_wp2
                go_roundw
                case rel => exact ⟨k + 1, v', rfl, by simp, by omega, HNX.out⟩
                case measure => (simp [intOf]) <;> omega
          · have hkn2 : ¬ (k : Int) < (K : Int) := by omega
            obtain rfl : k = K := by omega
            have hmv : MovesV (From w.heap.size) wr (.slice ao k co) x.arcs := by
              have h3 := HNR.out
              rw [List.take_of_length_le (by rw [List.length_zipIdx, HK.out]; exact Nat.le_refl _)] at h3
              exact h3.moves (by rw [← HS3.out]; exact HB3.out.size)
            have HMV := Lib.hid hmv
            have HBW : Hid (Below w.heap.size w wr) := HB3.out.trans (HBR.out.mono HB3.out.size)
            clear hmv
            go_wp2
            go_ret
            refine ⟨HBW.out, _, rfl, ?_⟩
            rw [HNO.out]
            exact HMV.out
      · have hd1 : decide (M ≤ k) = true := decide_eq_true (by omega)
        rw [List.getElem?_eq_none (by rw [HM.out]; omega)] at hno
        have HNO := Lib.hid hno
        clear hno hrow
        go_wp2_with (fail)
        go_quiet (fail)
        generalize hwq : World.drewN w2 _ = wq
        have HBZ : Hid (Below w.heap.size w wq) := by rw [← hwq]; exact below_drewN HB2.out _
        clear hwq
        go_wp2
        go_ret
        refine ⟨HBZ.out, _, rfl, ?_⟩
        rw [HNO.out]
        exact ⟨[], RowL.nil _ _ _, rfl⟩
    · rw [if_neg hl] at hno
      have hle : l.isEmpty = false := by cases l with
        | nil => exact absurd rfl hl
        | cons a r => rfl
      rw [hle]
      have HNO := Lib.hid hno
      clear hno hrow hl hle
      go_wp2_with (fail)
      go_quiet (fail)
      generalize hwq : World.drewN w2 _ = wq
      have HBZ : Hid (Below w.heap.size w wq) := by rw [← hwq]; exact below_drewN HB2.out _
      clear hwq
      go_wp2
      go_ret
      refine ⟨HBZ.out, _, rfl, ?_⟩
      rw [HNO.out]
      exact ⟨[], RowL.nil _ _ _, rfl⟩
end Go.Proofs.Ytcedenoicmpjmaa
