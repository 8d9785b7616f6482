/- The walk of the reference's Look (printed by mkrlk.py). -/
import Derived.Test.YtcedenoicmpjmaaRms
namespace Go.Proofs.Ytcedenoicmpjmaa
open Go.RowKit
set_option linter.unusedVariables false
set_option linter.unusedSimpArgs false

/-- The reference reads a state's number as the program does. -/
theorem ref_none {N : PNet} {s : Bs} (h : nums 1099511627776 1 s = none) : nodeOf N s = none := by
  unfold nodeOf
  have : nums 20000 1 s = none := by
    rw [nums] at h ⊢
    cases hd : dec s with
    | ok n k =>
      rw [hd] at h
      simp only at h ⊢
      split at h
      · rw [if_pos (by omega)]
      · rw [nums] at h; cases h
    | _ => rfl
  rw [this]
theorem ref_some {N : PNet} {s : Bs} {ns : List Nat} {l : Bs} (hN : N.length ≤ 20000) (h : nums 1099511627776 1 s = some (ns, l)) : ∃ k, ns = [k] ∧ k ≤ 1099511627776 ∧ nodeOf N s = if l = [] then N[k]? else none := by
  rw [nums] at h
  cases hd : dec s with
  | ok n k =>
    rw [hd] at h
    simp only at h
    split at h
    · cases h
    · rename_i hn
      rw [nums] at h
      simp only [Option.some.injEq, Prod.mk.injEq] at h
      obtain ⟨rfl, rfl⟩ := h
      refine ⟨n, rfl, by omega, ?_⟩
      unfold nodeOf
      rw [nums, hd]
      simp only
      by_cases hl : s.drop k = []
      · rw [if_pos hl, hl]
        by_cases h2 : 20000 < n
        · rw [if_pos h2, List.getElem?_eq_none (by omega)]
        · rw [if_neg h2, nums]
      · rw [if_neg hl]
        obtain ⟨a, r, hr⟩ := List.exists_cons_of_ne_nil hl
        rw [hr]
        by_cases h2 : 20000 < n
        · rw [if_pos h2]
        · rw [if_neg h2, nums]
  | _ => rw [hd] at h; cases h
set_option maxHeartbeats 4000000 in
set_option maxRecDepth 100000 in
theorem refLookFn {P : Nat → Prop} {w : World} {n : PNet} {v : Value} {s : ByteArray} (h : NetV P w v n) (hs : s.size ≤ 1048576) (hN : n.length ≤ 20000) : Calls Try.prog 15 #[.agg #[v], .string s] w (LookPost n s.data.toList w) := by
  have h := h.mono (Q := fun k => k < w.heap.size) (fun k _ hk => hk)
  obtain ⟨f, hr, hg⟩ := h
  obtain ⟨a0, k0, rfl, hk0, _, _⟩ := hr.form
  obtain ⟨M, hM⟩ : ∃ M, n.length = M := ⟨_, rfl⟩
  have HM := Lib.hid hM
  have HNN := Lib.hid hN
  rw [hM] at hk0 hN ⊢
  obtain ⟨w1, hw1⟩ : ∃ W, W = (w.alloc (.cells #[.slice a0 M k0] 24)).alloc (.cells #[.int .u64 0, .bool false, .bool false, .bool false] 40) := ⟨_, rfl⟩
  have hb1 : Below w.heap.size w w1 := by rw [hw1]; exact ((Below.refl _ _).alloc (Nat.le_refl _) _).alloc (by simp) _
  have h2 : Holds w1 w.heap.size 24 [.slice a0 M k0] := by rw [hw1]; exact (Holds.new w 24 #[.slice a0 M k0]).alloc _
  have h4 : Holds w1 (w.heap.size + 1) 40 [.int .u64 0, .bool false, .bool false, .bool false] := by
    have h := Holds.new (w.alloc (.cells #[.slice a0 M k0] 24)) 40 #[.int .u64 0, .bool false, .bool false, .bool false]
    simp only [World.size_alloc] at h
    rw [hw1]; exact h
  have HB1 := Lib.hid hb1
  have H2 := Lib.hid h2
  have H4 := Lib.hid h4
  have HR := Lib.hid (hr.up (Keep.below hb1))
  have HG := Lib.hid (LsF.up (fun _ _ => oneNode.up (Keep.below hb1)) _ hg)
  have HC := Lib.hid (refNumbers (w := w1) (m := 1) hs (by omega))
  clear hr hg hb1 h2 h4 hM
  go_enter Try.func15, Try.ntmps15
  go_wp2_with (fail)
  rw [← hw1]
  clear hw1
  refine HC.out.mono ?_
  rintro e w2 ⟨hb2, hpost⟩
  have HB2 : Hid (Below w.heap.size w w2) := HB1.out.trans (hb2.mono HB1.out.size)
  have H22 := Lib.hid (H2.out.belowAll hb2)
  have H42 := Lib.hid (H4.out.belowAll hb2)
  have HR2 := Lib.hid (HR.out.up (Keep.below hb2))
  have HG2 := Lib.hid (LsF.up (fun _ _ => oneNode.up (Keep.below hb2)) _ HG.out)
  have c2 := H22.out.cell 0
  simp only [List.getElem?_cons_zero] at c2
  clear hb2 H2 H4 HR HG HC
  cases hnu : nums 1099511627776 1 s.data.toList with
  | none =>
    rw [hnu] at hpost
    have HNO := Lib.hid (ref_none (N := n) hnu)
    dsimp only at hpost
    subst hpost
    clear hnu
    go_wp2_with (fail)
    go_quiet (fail)
    go_wp2_with (refine wpList_storeB rfl 40 _ _ rfl (w.heap.size + 1) 0 [.int .u64 0, .bool false, .bool false, .bool false] rfl rfl H42.out (Nat.le_of_ble_eq_true rfl) sz_Sight rfl ?_)
    refine Named.mk (fun WZ hWZ => ?_)
    have hfz : Fr (fun q => q = w.heap.size + 1) w2 WZ := by rw [hWZ]; exact ((Fr.refl (fun q => q = w.heap.size + 1) w2).drewN _).trans (Fr.setRX _ _ 0 _) (fun _ _ h => h)
    have HBZ : Hid (Below w.heap.size w WZ) := HB2.out.trans (hfz.to_below HB2.out.size fun q hq e => by omega)
    have HDZ : Hid (Holds WZ (w.heap.size + 1) 40 [.int .u64 0, .bool false, .bool false, .bool false]) := Holds.stored (W := w2.drewN _) H42.out hWZ (Nat.le_of_ble_eq_true rfl)
    clear hWZ hfz
    go_wp2
    refine bodyPost_ret (outBox Try.results15 HDZ.out rfl _ Try.underlying40 rfl sz_Sight) rfl ?_
    refine ⟨HBZ.out, ?_⟩
    rw [HNO.out]
    rfl
  | some p =>
    obtain ⟨ns, l⟩ := p
    rw [hnu] at hpost
    obtain ⟨v2, rfl, hown⟩ := hpost
    obtain ⟨k, rfl, hkb, hno⟩ := ref_some (N := n) HNN.out hnu
    have hrow := RowL.of_owns (P := fun _ => True) hown fun _ _ => trivial
    obtain ⟨gk, ok, ck, rfl⟩ := hrow.some (by simp)
    have ck0 : w2.cell? ⟨gk, ok, none⟩ = some (.int .i64 (k : Int)) := by
      obtain ⟨g', o', c', x, h1, h2, h3⟩ := hrow.at1 (i := 0) (by simp)
      injection h1 with h1 _ _
      injection h1 with h1
      injection h1 with h1 h1'
      subst h1 h1'
      injection h2 with h2
      subst h2
      exact h3
    clear hown hnu
    by_cases hl : l = []
    · rw [if_pos hl] at hno
      subst hl
      by_cases hkM : k < M
      · have hk2 : (k : Int) < (M : Int) := by omega
        have hk0i : (0 : Int) ≤ (k : Int) := by omega
        have hwk : IntKind.i64.wrap (k : Int) = (k : Int) := by rw [IntKind.wrap_i64]; omega
        have hd1 : decide (M ≤ k) = false := decide_eq_false (by omega)
        have hil : k < n.length := by rw [HM.out]; exact hkM
        obtain ⟨gb, ob, cb, c, he1, hG1, hr1⟩ := HR2.out.atN oneNode HG2.out hil
        injection he1 with he1 hmid he1'
        subst he1 he1'
        clear hmid
        obtain ⟨x, hxx⟩ : ∃ x, n[k] = x := ⟨_, rfl⟩
        rw [hxx] at hG1
        rw [List.getElem?_eq_getElem hil, hxx] at hno
        obtain ⟨va, rfl, fx, rx, gx⟩ := hG1
        obtain ⟨ax, kx, rfl, _, _, _⟩ := rx.form
        have HNO := Lib.hid hno
        have HR1 := Lib.hid hr1
        have HRK := Lib.hid hrow
        clear hxx rx gx hno hr1 hrow
        go_wp2_with (fail)
        go_quiet (fail)
        go_wp2_with (fail)
        generalize hw3 : World.drewN w2 _ = w3
        have hb3 : Below w2.heap.size w2 w3 := by rw [← hw3]; exact below_drewN (Below.refl _ _) _
        clear hw3
        have HB3 := Lib.hid hb3
        have H23 := Lib.hid (H22.out.belowAll hb3)
        have HK3 := Lib.hid ((HRK.out.up (Keep.below hb3)))
        have HR3 := Lib.hid (range_below HR1.out hb3)
        have H43 := Lib.hid (H42.out.belowAll hb3)
        have ckk : ∀ w4, Below w3.heap.size w3 w4 → w4.cell? ⟨gk, ok, none⟩ = some (.int .i64 (k : Int)) := fun w4 hb4 => by
          obtain ⟨g', o', c', x, h1, h2, h3⟩ := (HK3.out.up (Keep.below hb4)).at1 (i := 0) (by simp)
          injection h1 with h1 _ _
          injection h1 with h1
          injection h1 with h1 h1'
          subst h1 h1'
          injection h2 with h2
          subst h2
          exact h3
        have HCK := Lib.hid ckk
        clear hb3 c2 ck0 ckk
        refine wp_region_rho (fun (r : Nat) j => ([(.pointer (some ⟨w.heap.size, 0, none⟩)), (.slice (some ⟨gb, ob, none⟩) M k0), (.slice (some ⟨gk, ok, none⟩) 1 ck), (.pointer (some ⟨gk, ok, none⟩)), (.int .i64 (k : Int)), (.pointer (some ⟨gb, ob + k * 5, none⟩)), (.agg ([.slice ax x.arcs.length kx, .int .u64 (x.props : Int), .bool x.fin, .bool x.prog, .bool x.acc]).toArray), (.pointer (some ⟨r, 0, none⟩)), (undef)] : List Value).getD j undef) (fun r L w2 => Below w3.heap.size w3 w2 ∧ (L.getD 7 false = true → w3.heap.size ≤ r ∧ Holds w2 r 53 (if L.getD 8 false then ([.slice ax x.arcs.length kx, .int .u64 (x.props : Int), .bool x.fin, .bool x.prog, .bool x.acc]) else [.slice none 0 0, .int .u64 0, .bool false, .bool false, .bool false])) ∧ (L.getD 8 false = true → L.getD 7 false = true)) [(0, 25), (1, 26), (2, 27), (3, 28), (4, 29), (5, 30), (6, 31), (7, 7)] 41 rfl (by kernel_rfl) (by kernel_rfl) (by kernel_rfl) 0 ⟨(Below.refl _ _).drew, (fun h => by simp at h), (fun h => by simp at h)⟩ (fun i hi => ?_) (fun r w9 hW9 => ?_)
        · have hi2 : i < 9 := hi
          clear hi
          have hi3 : i = 0 ∨ i = 1 ∨ i = 2 ∨ i = 3 ∨ i = 4 ∨ i = 5 ∨ i = 6 ∨ i = 7 ∨ i = 8 := by omega
          clear hi2
          rcases hi3 with rfl | rfl | rfl | rfl | rfl | rfl | rfl | rfl | rfl
          · exact RhoOp.pure rfl (fun r L b w2 hl hR hW => by
              have h2 : b.eval (.tmp 2) = .pointer (some ⟨w.heap.size, 0, none⟩) := (hR.old (by decide) (by kernel_rfl)).trans rfl
              simp only [Act.eval, Array.getD_eq_getD_getElem?] at h2
              show (execOp b.eval _).run _ _ = .ok (.value (.pointer (some ⟨w.heap.size, 0, none⟩))) _
              unfold execOp
              simp [go_sem, h2]) (fun r L w2 hs h => by
              simp only [gd_ne (L := L) (i := 0) (j := 7) (by decide), gd_ne (L := L) (i := 0) (j := 8) (by decide)]
              exact h)
          · exact RhoOp.pure rfl (fun r L b w2 hl hR hW => by
              have e : w2.cell? ⟨w.heap.size, 0, none⟩ = some (.slice (some ⟨gb, ob, none⟩) M k0) := (H23.out.belowAll hW.1).cell 0
              have h25 : b.eval (.tmp 25) = .pointer (some ⟨w.heap.size, 0, none⟩) := hR.of (j := 0) (by decide) (by kernel_rfl)
              simp only [Act.eval, Array.getD_eq_getD_getElem?] at h25
              show (execOp b.eval _).run _ _ = .ok (.value (.slice (some ⟨gb, ob, none⟩) M k0)) _
              unfold execOp
              simp [go_sem, h25, e]) (fun r L w2 hs h => by
              simp only [gd_ne (L := L) (i := 1) (j := 7) (by decide), gd_ne (L := L) (i := 1) (j := 8) (by decide)]
              exact h)
          · exact RhoOp.pure rfl (fun r L b w2 hl hR hW => by
              have h5 : b.eval (.tmp 5) = .slice (some ⟨gk, ok, none⟩) 1 ck := (hR.old (by decide) (by kernel_rfl)).trans rfl
              simp only [Act.eval, Array.getD_eq_getD_getElem?] at h5
              show (execOp b.eval _).run _ _ = .ok (.value (.slice (some ⟨gk, ok, none⟩) 1 ck)) _
              unfold execOp
              simp [go_sem, h5]) (fun r L w2 hs h => by
              simp only [gd_ne (L := L) (i := 2) (j := 7) (by decide), gd_ne (L := L) (i := 2) (j := 8) (by decide)]
              exact h)
          · exact RhoOp.pure rfl (fun r L b w2 hl hR hW => by
              have h27 : b.eval (.tmp 27) = .slice (some ⟨gk, ok, none⟩) 1 ck := hR.of (j := 2) (by decide) (by kernel_rfl)
              simp only [Act.eval, Array.getD_eq_getD_getElem?] at h27
              show (execOp b.eval _).run _ _ = .ok (.value (.pointer (some ⟨gk, ok, none⟩))) _
              unfold execOp
              simp [go_sem, h27]) (fun r L w2 hs h => by
              simp only [gd_ne (L := L) (i := 3) (j := 7) (by decide), gd_ne (L := L) (i := 3) (j := 8) (by decide)]
              exact h)
          · exact RhoOp.pure rfl (fun r L b w2 hl hR hW => by
              have e := HCK.out w2 hW.1
              have h28 : b.eval (.tmp 28) = .pointer (some ⟨gk, ok, none⟩) := hR.of (j := 3) (by decide) (by kernel_rfl)
              simp only [Act.eval, Array.getD_eq_getD_getElem?] at h28
              show (execOp b.eval _).run _ _ = .ok (.value (.int .i64 (k : Int))) _
              unfold execOp
              simp [go_sem, h28, e]) (fun r L w2 hs h => by
              simp only [gd_ne (L := L) (i := 4) (j := 7) (by decide), gd_ne (L := L) (i := 4) (j := 8) (by decide)]
              exact h)
          · exact RhoOp.pure rfl (fun r L b w2 hl hR hW => by
              have h26 : b.eval (.tmp 26) = .slice (some ⟨gb, ob, none⟩) M k0 := hR.of (j := 1) (by decide) (by kernel_rfl)
              have h29 : b.eval (.tmp 29) = .int .i64 (k : Int) := hR.of (j := 4) (by decide) (by kernel_rfl)
              simp only [Act.eval, Array.getD_eq_getD_getElem?] at h26 h29
              show (execOp b.eval _).run _ _ = .ok (.value (.pointer (some ⟨gb, ob + k * 5, none⟩))) _
              unfold execOp
              simp [go_sem, h26, h29, hk0i, hk2, hwk]) (fun r L w2 hs h => by
              simp only [gd_ne (L := L) (i := 5) (j := 7) (by decide), gd_ne (L := L) (i := 5) (j := 8) (by decide)]
              exact h)
          · exact RhoOp.pure rfl (fun r L b w2 hl hR hW => by
              have hlo := run_loadAt_mid (P := Try.prog) w2 gb (ob + k * 5) 53 ([.slice ax x.arcs.length kx, .int .u64 (x.props : Int), .bool x.fin, .bool x.prog, .bool x.acc]) _ (range_below HR3.out hW.1) Try.underlying53 rfl sz_Node
              have h30 : b.eval (.tmp 30) = .pointer (some ⟨gb, ob + k * 5, none⟩) := hR.of (j := 5) (by decide) (by kernel_rfl)
              simp only [Act.eval, Array.getD_eq_getD_getElem?] at h30
              show (execOp b.eval _).run _ _ = .ok (.value (.agg ([.slice ax x.arcs.length kx, .int .u64 (x.props : Int), .bool x.fin, .bool x.prog, .bool x.acc]).toArray)) _
              unfold execOp
              simp [Act.eval, h30, Sem.run_bind, hlo]) (fun r L w2 hs h => by
              simp only [gd_ne (L := L) (i := 6) (j := 7) (by decide), gd_ne (L := L) (i := 6) (j := 8) (by decide)]
              exact h)
          · exact RhoOp.make rfl (fun r L b w2 hs hl hR hW => by
              refine ⟨w2.heap.size, w2.alloc (.cells #[.slice none 0 0, .int .u64 0, .bool false, .bool false, .bool false] 53), ?_, ?_, ?_⟩
              · exact fun j hj => match j, hj with | 7, hj => (by rw [hl] at hj; cases hj) | 0, _ => rfl | 1, _ => rfl | 2, _ => rfl | 3, _ => rfl | 4, _ => rfl | 5, _ => rfl | 6, _ => rfl | 8, _ => rfl | j + 9, _ => rfl
              · show (execOp b.eval _).run _ _ = .ok (.value (.pointer (some ⟨(w2.heap.size), 0, none⟩))) _
                unfold execOp
                simp [go_sem, ]
              · have hb : Below w2.heap.size w2 (w2.alloc (.cells #[.slice none 0 0, .int .u64 0, .bool false, .bool false, .bool false] 53)) := (Below.refl _ _).alloc (Nat.le_refl _) _
                have h10 : L.getD 8 false = false := by
                  cases hq : L.getD 8 false with
                  | false => rfl
                  | true => have := hW.2.2 hq; rw [hl] at this; cases this
                refine ⟨hW.1.trans (hb.mono hW.1.size), fun _ => ⟨hW.1.size, ?_⟩, fun q => ?_⟩
                · rw [gd_ne (by decide), h10]
                  exact Holds.new w2 53 #[.slice none 0 0, .int .u64 0, .bool false, .bool false, .bool false]
                · rw [gd_ne (by decide), h10] at q; cases q)
          · exact RhoOp.store rfl rfl (fun r L b w2 hs hl hR hW => by
              have h9 := hR.on (j := 7) (by kernel_rfl)
              obtain ⟨hge, hbx⟩ := hW.2.1 h9
              rw [hl] at hbx
              have hst := storeN (P := Try.prog) (ty := 53) (xs := [.slice ax x.arcs.length kx, .int .u64 (x.props : Int), .bool x.fin, .bool x.prog, .bool x.acc]) (i := 0) hbx (Nat.le_of_ble_eq_true rfl) sz_Node rfl
              have h7 : b.eval (.tmp 7) = .pointer (some ⟨r, 0, none⟩) := hR.of (j := 7) (by decide) (by kernel_rfl)
              have h31 : b.eval (.tmp 31) = .agg ([.slice ax x.arcs.length kx, .int .u64 (x.props : Int), .bool x.fin, .bool x.prog, .bool x.acc]).toArray := hR.of (j := 6) (by decide) (by kernel_rfl)
              simp only [Act.eval, Array.getD_eq_getD_getElem?] at h7 h31
              refine ⟨r, setR w2 r 0 ([.slice ax x.arcs.length kx, .int .u64 (x.props : Int), .bool x.fin, .bool x.prog, .bool x.acc]), fun _ _ => rfl, ?_, ?_⟩
              · show (execOp b.eval _).run _ _ = .ok .skip _
                unfold execOp
                simp [Act.eval, h7, h31, Sem.run_bind, hst]
              · have hfr := Fr.setRX r ([.slice ax x.arcs.length kx, .int .u64 (x.props : Int), .bool x.fin, .bool x.prog, .bool x.acc]) 0 w2
                refine ⟨hW.1.trans (hfr.to_below hW.1.size fun q hq e => by omega), fun _ => ⟨hge, ?_⟩, fun _ => ?_⟩
                · rw [gd_eq (by rw [hs]; decide), if_pos rfl]
                  have := hbx.stored (W' := setR w2 r 0 ([.slice ax x.arcs.length kx, .int .u64 (x.props : Int), .bool x.fin, .bool x.prog, .bool x.acc])) rfl (Nat.le_of_ble_eq_true rfl)
                  exact this
                · rw [gd_ne (by decide)]; exact h9)
        · refine puts_as (ps := [(0, 25, .pointer (some ⟨w.heap.size, 0, none⟩)), (1, 26, .slice (some ⟨gb, ob, none⟩) M k0), (2, 27, .slice (some ⟨gk, ok, none⟩) 1 ck), (3, 28, .pointer (some ⟨gk, ok, none⟩)), (4, 29, .int .i64 (k : Int)), (5, 30, .pointer (some ⟨gb, ob + k * 5, none⟩)), (6, 31, .agg ([.slice ax x.arcs.length kx, .int .u64 (x.props : Int), .bool x.fin, .bool x.prog, .bool x.acc]).toArray), (7, 7, .pointer (some ⟨r, 0, none⟩))]) rfl ?_
          simp only [puts, Act.put, List.setIfInBounds_toArray, List.set_cons_zero, List.set_cons_succ]
          obtain ⟨hb9, h9, -⟩ := hW9
          obtain ⟨hge, hbx⟩ := h9 rfl
          replace hbx : Holds w9 r 53 ([.slice ax x.arcs.length kx, .int .u64 (x.props : Int), .bool x.fin, .bool x.prog, .bool x.acc]) := hbx
          have f1 := hbx.cell 1
          have f2 := hbx.cell 2
          have f3 := hbx.cell 3
          have f4 := hbx.cell 4
          simp only [List.getElem?_cons_zero, List.getElem?_cons_succ] at f1 f2 f3 f4
          have H49 := Lib.hid (H43.out.belowAll hb9)
          have HB9 : Hid (Below w.heap.size w w9) := HB2.out.trans ((HB3.out.trans (hb9.mono HB3.out.size)).mono HB2.out.size)
          clear hb9 h9 hbx hge
          go_wp2_with (refine wpList_storeB rfl 40 _ _ rfl (w.heap.size + 1) 0 [.int .u64 (x.props : Int), .bool x.fin, .bool x.prog, .bool x.acc] rfl rfl H49.out (Nat.le_of_ble_eq_true rfl) sz_Sight rfl ?_)
          refine Named.mk (fun WZ hWZ => ?_)
          have hfz : Fr (fun q => q = w.heap.size + 1) w9 WZ := by rw [hWZ]; exact Fr.setRX _ _ 0 _
          have HBZ : Hid (Below w.heap.size w WZ) := HB9.out.trans (hfz.to_below HB9.out.size fun q hq e => by omega)
          have HDZ : Hid (Holds WZ (w.heap.size + 1) 40 [.int .u64 (x.props : Int), .bool x.fin, .bool x.prog, .bool x.acc]) := H49.out.stored hWZ (Nat.le_of_ble_eq_true rfl)
          clear hWZ hfz
          go_wp2
          refine bodyPost_ret (outBox Try.results15 HDZ.out rfl _ Try.underlying40 rfl sz_Sight) rfl ?_
          refine ⟨HBZ.out, ?_⟩
          rw [HNO.out]
          rfl
      · have hd1 : decide (M ≤ k) = true := decide_eq_true (by omega)
        rw [List.getElem?_eq_none (by rw [HM.out]; omega)] at hno
        have HNO := Lib.hid hno
        clear hno hrow
        go_wp2_with (fail)
        go_quiet (fail)
        go_wp2_with (refine wpList_storeB rfl 40 _ _ rfl (w.heap.size + 1) 0 [.int .u64 0, .bool false, .bool false, .bool false] rfl rfl H42.out (Nat.le_of_ble_eq_true rfl) sz_Sight rfl ?_)
        refine Named.mk (fun WZ hWZ => ?_)
        have hfz : Fr (fun q => q = w.heap.size + 1) w2 WZ := by rw [hWZ]; exact ((Fr.refl (fun q => q = w.heap.size + 1) w2).drewN _).trans (Fr.setRX _ _ 0 _) (fun _ _ h => h)
        have HBZ : Hid (Below w.heap.size w WZ) := HB2.out.trans (hfz.to_below HB2.out.size fun q hq e => by omega)
        have HDZ : Hid (Holds WZ (w.heap.size + 1) 40 [.int .u64 0, .bool false, .bool false, .bool false]) := Holds.stored (W := w2.drewN _) H42.out hWZ (Nat.le_of_ble_eq_true rfl)
        clear hWZ hfz
        go_wp2
        refine bodyPost_ret (outBox Try.results15 HDZ.out rfl _ Try.underlying40 rfl sz_Sight) rfl ?_
        refine ⟨HBZ.out, ?_⟩
        rw [HNO.out]
        rfl
    · rw [if_neg hl] at hno
      have hle : l.isEmpty = false := by cases l with
        | nil => exact absurd rfl hl
        | cons a r => rfl
      rw [hle]
      have HNO := Lib.hid hno
      clear hno hrow hl hle
      go_wp2_with (fail)
      go_quiet (fail)
      go_wp2_with (refine wpList_storeB rfl 40 _ _ rfl (w.heap.size + 1) 0 [.int .u64 0, .bool false, .bool false, .bool false] rfl rfl H42.out (Nat.le_of_ble_eq_true rfl) sz_Sight rfl ?_)
      refine Named.mk (fun WZ hWZ => ?_)
      have hfz : Fr (fun q => q = w.heap.size + 1) w2 WZ := by rw [hWZ]; exact ((Fr.refl (fun q => q = w.heap.size + 1) w2).drewN _).trans (Fr.setRX _ _ 0 _) (fun _ _ h => h)
      have HBZ : Hid (Below w.heap.size w WZ) := HB2.out.trans (hfz.to_below HB2.out.size fun q hq e => by omega)
      have HDZ : Hid (Holds WZ (w.heap.size + 1) 40 [.int .u64 0, .bool false, .bool false, .bool false]) := Holds.stored (W := w2.drewN _) H42.out hWZ (Nat.le_of_ble_eq_true rfl)
      clear hWZ hfz
      go_wp2
      refine bodyPost_ret (outBox Try.results15 HDZ.out rfl _ Try.underlying40 rfl sz_Sight) rfl ?_
      refine ⟨HBZ.out, ?_⟩
      rw [HNO.out]
      rfl
end Go.Proofs.Ytcedenoicmpjmaa
