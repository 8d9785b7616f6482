/- The walk of threads.Begin (printed by mktbg.py). -/
import Derived.Test.YtcopoaaofjeklaaTap
import Derived.Test.YtcopoaaofjeklaaMa4
namespace Go.Proofs.Ytcopoaaofjeklaa.G
open Go.RowKit
set_option linter.unusedVariables false
set_option linter.unusedSimpArgs false

theorem RowL.len {P : Nat → Prop} {w : World} {sz n : Nat} {v : Value} {f : List Value} (h : RowL P w sz v n f) : f.length = n * sz := by
  obtain ⟨_, _, _, _, _, h4, _⟩ := h
  exact h4
theorem run_op_append {o : Oper} {ev : Operand → Value} {s x : Operand} {t1 t2 ty : TypeId} {v y v' : Value} {w w' : World} (ho : o.op = .call { callee := .builtin .append, args := #[s, x], argTypes := #[t1, t2] }) (ht : o.type = ty) (hs : ev s = v) (hx : ev x = y) (hr : (Builtin.append_ #[t1, t2] ty #[v, y]).run Try.prog w = .ok v' w') : (execOp ev o).run Try.prog w = .ok (.value v') w' := by
  unfold execOp
  simp only [ho, ht, resolve, invoke, builtin, Sem.run_bind, Sem.run_pure, Result.andThen_ok, List.map_toArray, List.map_cons, List.map_nil, hs, hx, hr]
set_option maxHeartbeats 4000000 in
set_option maxRecDepth 100000 in
theorem tbeginFn {P : Nat → Prop} {w : World} {t : PThr} {vi vp vq : Value} (h : ThrV P w vi vp vq t) (ht : OkT t) : Calls Try.prog 48 #[.agg #[vi, vp, vq]] w (fun e w' => e = .returned (.string (tbeg t)) ∧ Below w.heap.size w w') := by
  obtain ⟨fp, hrp, hgp⟩ := h.procs
  obtain ⟨ap, cp, rfl, hcp, _, _⟩ := hrp.form
  obtain ⟨l16, l8, l60⟩ := ht.len
  obtain ⟨w1, hw1⟩ : ∃ W, W = w.alloc (.cells #[vi, .slice ap t.procs.length cp, vq] 66) := ⟨_, rfl⟩
  have hb1 : Below w.heap.size w w1 := by rw [hw1]; exact (Below.refl _ _).alloc (Nat.le_refl _) _
  have h2 : Holds w1 w.heap.size 66 [vi, .slice ap t.procs.length cp, vq] := by rw [hw1]; exact Holds.new w 66 #[vi, .slice ap t.procs.length cp, vq]
  have c1 : vi.cells = #[vi] := by obtain ⟨_, _, e, _⟩ := h.init.form; rw [e]; rfl
  obtain ⟨n, hn⟩ : ∃ n, t.init.length = n := ⟨_, rfl⟩
  obtain ⟨m, hm⟩ : ∃ n, t.procs.length = n := ⟨_, rfl⟩
  obtain ⟨l0, hl0⟩ : ∃ l, t.init.map intV = l := ⟨_, rfl⟩
  have hln : l0.length = n := by rw [← hl0, List.length_map, hn]
  have HI := h.init.up (Keep.below hb1)
  rw [hn, hl0] at HI
  have HI := Lib.hid HI
  have HL1 : Hid (∀ u ∈ l0, u.oneCell' = true) := fun u hu => by
    rw [← hl0] at hu
    obtain ⟨z, _, rfl⟩ := List.mem_map.1 hu
    rfl
  have HNL : Hid (n ≤ 2000000) := by show _ ≤ _; omega
  have HNN : Hid (n ≤ 16) := by show _ ≤ _; omega
  have HMM : Hid (m ≤ 8) := by show _ ≤ _; omega
  have hnat : l0 ++ List.replicate m (.int .i64 0) = (t.init.map Int.toNat ++ List.replicate t.procs.length 0).map natV := by
    rw [← hl0, List.map_append, List.map_replicate, hm, List.map_map]
    congr 1
    refine List.map_congr_left fun z hz => ?_
    have := (ht.init z hz).1
    show Value.int .i64 z = .int .i64 ((z.toNat : Nat) : Int)
    congr 1
    omega
  have hlen : (t.init.map Int.toNat ++ List.replicate t.procs.length 0).length = n + m := by rw [List.length_append, List.length_map, List.length_replicate, hn, hm]
  have HROW : Hid (∀ {v : Value} {W : World}, W.ownsRow w1.heap.size 3 1 v (n + m) (l0 ++ List.replicate m (.int .i64 0)) → RowL (From w1.heap.size) W 1 v (t.init.map Int.toNat ++ List.replicate t.procs.length 0).length ((t.init.map Int.toNat ++ List.replicate t.procs.length 0).map natV)) := fun hO => by
    rw [hlen, ← hnat]
    exact RowL.of_owns hO fun _ h => h
  have HSM : Hid (∀ z ∈ t.init.map Int.toNat ++ List.replicate t.procs.length 0, z < 9223372036854775808) := fun z hz => by
    rcases List.mem_append.1 hz with hz | hz
    · obtain ⟨y, hy, rfl⟩ := List.mem_map.1 hz
      have := (ht.init y hy).2
      omega
    · rw [List.eq_of_mem_replicate hz]; omega
  have HLEN : Hid ((t.init.map Int.toNat ++ List.replicate t.procs.length 0).length ≤ 1000) := by show _ ≤ _; omega
  rw [hm] at h2 hw1 hcp
  rw [hm]
  have HT := Lib.hid h2
  have HB1 := Lib.hid hb1
  clear h ht hrp hgp hb1 h2 hn hm hl0 hln hnat hlen l16 l8 l60
  go_enter Try.func48, Try.ntmps48
  go_wp2_with (fail)
  rw [← hw1]
  clear hw1
  obtain ⟨b1, hb1⟩ : ∃ b, w.heap.size = b := ⟨_, rfl⟩
  have HT : Hid (Holds w1 b1 66 [vi, .slice ap m cp, vq]) := by rw [← hb1]; exact HT.out
  rw [hb1]
  clear hb1
  refine wp_region_rho (fun (r : Value × Value) j => ([(.pointer (some ⟨b1, 0, none⟩)), (.pointer (some ⟨b1, 0, none⟩)), (vi), (r.1), (.pointer (some ⟨b1, 0, none⟩)), (.pointer (some ⟨b1, 1, none⟩)), (.slice ap m cp), (.int .i64 (m : Int)), (r.2), (.string (tbeg t)), (.string (tbeg t))] : List Value).getD j undef) (fun r L w2 => Below w1.heap.size w1 w2 ∧ (L.getD 3 false = true → L.getD 8 false = false → w2.ownsRow w1.heap.size 3 1 r.1 n l0) ∧ (L.getD 8 false = true → w2.ownsRow w1.heap.size 3 1 r.2 (n + m) (l0 ++ List.replicate m (.int .i64 0))) ∧ (L.getD 8 false = true → L.getD 3 false = true)) [(0, 3), (1, 4), (2, 5), (3, 6), (4, 7), (5, 8), (6, 9), (7, 10), (8, 11), (9, 12), (10, 2)] 13 rfl (by kernel_rfl) (by kernel_rfl) (by kernel_rfl) (undef, undef) ⟨(Fr.refl (fun _ => False) w1).drew.to_below (Nat.le_refl _) (fun _ _ h => h), (fun h => by simp at h), (fun h => by simp at h), (fun h => by simp at h)⟩ (fun i hi => ?_) (fun r w9 hW9 => ?_)
  · have hi2 : i < 11 := hi
    clear hi
    have hi3 : i = 0 ∨ i = 1 ∨ i = 2 ∨ i = 3 ∨ i = 4 ∨ i = 5 ∨ i = 6 ∨ i = 7 ∨ i = 8 ∨ i = 9 ∨ i = 10 := by omega
    clear hi2
    rcases hi3 with rfl | rfl | rfl | rfl | rfl | rfl | rfl | rfl | rfl | rfl | rfl
    · exact RhoOp.pure rfl (fun r L b w2 hl hR hW => by
        have h1 : b.eval (.tmp 1) = .pointer (some ⟨b1, 0, none⟩) := (hR.old (by decide) (by kernel_rfl)).trans rfl
        simp only [Act.eval, Array.getD_eq_getD_getElem?] at h1
        show (execOp b.eval _).run _ _ = .ok (.value (.pointer (some ⟨b1, 0, none⟩))) _
        unfold execOp
        simp [go_sem, h1]) (fun r L w2 hs h => by
        simp only [gd_ne (L := L) (i := 0) (j := 3) (by decide), gd_ne (L := L) (i := 0) (j := 8) (by decide)]
        exact h)
    · exact RhoOp.pure rfl (fun r L b w2 hl hR hW => by
        have h3 : b.eval (.tmp 3) = .pointer (some ⟨b1, 0, none⟩) := hR.of (j := 0) (by decide) (by kernel_rfl)
        simp only [Act.eval, Array.getD_eq_getD_getElem?] at h3
        show (execOp b.eval _).run _ _ = .ok (.value (.pointer (some ⟨b1, 0, none⟩))) _
        unfold execOp
        simp [go_sem, h3]) (fun r L w2 hs h => by
        simp only [gd_ne (L := L) (i := 1) (j := 3) (by decide), gd_ne (L := L) (i := 1) (j := 8) (by decide)]
        exact h)
    · exact RhoOp.pure rfl (fun r L b w2 hl hR hW => by
        have e : w2.cell? ⟨b1, 0, none⟩ = some (vi) := ((HT.out.belowAll hW.1).cell 0).trans rfl
        have h4 : b.eval (.tmp 4) = .pointer (some ⟨b1, 0, none⟩) := hR.of (j := 1) (by decide) (by kernel_rfl)
        simp only [Act.eval, Array.getD_eq_getD_getElem?] at h4
        show (execOp b.eval _).run _ _ = .ok (.value (vi)) _
        unfold execOp
        simp [go_sem, h4, e]) (fun r L w2 hs h => by
        simp only [gd_ne (L := L) (i := 2) (j := 3) (by decide), gd_ne (L := L) (i := 2) (j := 8) (by decide)]
        exact h)
    · exact RhoOp.call (f := 17) rfl (fun r L b w2 hs hl hR hW => by
        have h5 : b.eval (.tmp 5) = vi := hR.of (j := 2) (by decide) (by kernel_rfl)
        simp only [Act.eval, Array.getD_eq_getD_getElem?] at h5
        refine ⟨#[vi], ?_, ?_⟩
        · unfold execOp
          simp [go_sem, h5]
        · refine (cloneIntsFn (HI.out.up (Keep.below hW.1)) HL1.out HNL.out).mono fun e w4 h => ?_
          obtain ⟨hb, v, he, hv1, hv2⟩ := h
          have h8 : L.getD 8 false = false := by
            cases hq : L.getD 8 false with
            | false => rfl
            | true => have := hW.2.2.2 hq; rw [hl] at this; cases this
          refine ⟨(v, r.2), fun j hj => ?_, he, hW.1.trans (hb.mono hW.1.size), fun _ _ => ?_, fun q => ?_, fun q => ?_⟩
          · match j, hj with
            | 3, hj => rw [hl] at hj; cases hj
            | 0, _ => rfl
            | 1, _ => rfl
            | 2, _ => rfl
            | 4, _ => rfl
            | 5, _ => rfl
            | 6, _ => rfl
            | 7, _ => rfl
            | 8, _ => rfl
            | 9, _ => rfl
            | 10, _ => rfl
            | j + 11, _ => rfl
          · rcases hv1 with rfl | hv1
            · obtain ⟨_, _, q1, _⟩ := hv2.form
              injection q1 with _ q1 _
              have := RowL.len hv2
              subst q1
              rw [List.eq_nil_of_length_eq_zero (l := l0) (by omega)]
              exact World.ownsRow_nil _ _ _ _
            · exact owns_wide hv1 hW.1.size
          · rw [gd_ne (by decide), h8] at q; cases q
          · rw [gd_ne (by decide), h8] at q; cases q)
    · exact RhoOp.pure rfl (fun r L b w2 hl hR hW => by
        have h1 : b.eval (.tmp 1) = .pointer (some ⟨b1, 0, none⟩) := (hR.old (by decide) (by kernel_rfl)).trans rfl
        simp only [Act.eval, Array.getD_eq_getD_getElem?] at h1
        show (execOp b.eval _).run _ _ = .ok (.value (.pointer (some ⟨b1, 0, none⟩))) _
        unfold execOp
        simp [go_sem, h1]) (fun r L w2 hs h => by
        simp only [gd_ne (L := L) (i := 4) (j := 3) (by decide), gd_ne (L := L) (i := 4) (j := 8) (by decide)]
        exact h)
    · exact RhoOp.pure rfl (fun r L b w2 hl hR hW => by
        have h7 : b.eval (.tmp 7) = .pointer (some ⟨b1, 0, none⟩) := hR.of (j := 4) (by decide) (by kernel_rfl)
        simp only [Act.eval, Array.getD_eq_getD_getElem?] at h7
        show (execOp b.eval _).run _ _ = .ok (.value (.pointer (some ⟨b1, 1, none⟩))) _
        unfold execOp
        simp [go_sem, h7]) (fun r L w2 hs h => by
        simp only [gd_ne (L := L) (i := 5) (j := 3) (by decide), gd_ne (L := L) (i := 5) (j := 8) (by decide)]
        exact h)
    · exact RhoOp.pure rfl (fun r L b w2 hl hR hW => by
        have e : w2.cell? ⟨b1, 1, none⟩ = some (.slice ap m cp) := ((HT.out.belowAll hW.1).cell 1).trans rfl
        have h8 : b.eval (.tmp 8) = .pointer (some ⟨b1, 1, none⟩) := hR.of (j := 5) (by decide) (by kernel_rfl)
        simp only [Act.eval, Array.getD_eq_getD_getElem?] at h8
        show (execOp b.eval _).run _ _ = .ok (.value (.slice ap m cp)) _
        unfold execOp
        simp [go_sem, h8, e]) (fun r L w2 hs h => by
        simp only [gd_ne (L := L) (i := 6) (j := 3) (by decide), gd_ne (L := L) (i := 6) (j := 8) (by decide)]
        exact h)
    · exact RhoOp.pure rfl (fun r L b w2 hl hR hW => by
        have h9 : b.eval (.tmp 9) = .slice ap m cp := hR.of (j := 6) (by decide) (by kernel_rfl)
        simp only [Act.eval, Array.getD_eq_getD_getElem?] at h9
        show (execOp b.eval _).run _ _ = .ok (.value (.int .i64 (m : Int))) _
        unfold execOp
        simp [go_sem, h9]) (fun r L w2 hs h => by
        simp only [gd_ne (L := L) (i := 7) (j := 3) (by decide), gd_ne (L := L) (i := 7) (j := 8) (by decide)]
        exact h)
    · exact RhoOp.make rfl (fun r L b w2 hs hl hR hW => by
        have h6 : b.eval (.tmp 6) = r.1 := hR.of (j := 3) (by decide) (by kernel_rfl)
        have h10 : b.eval (.tmp 10) = .int .i64 (m : Int) := hR.of (j := 7) (by decide) (by kernel_rfl)
        have on3 := hR.on (j := 3) (by kernel_rfl)
        obtain ⟨v', w', hr, q1, q2, q3⟩ := run_append_zeros (ty := 22) (hW.2.1 on3 hl) (m := m) (by have := HMM.out; omega) (by have := HNN.out; omega) hW.1.size
        refine ⟨(r.1, v'), w', ?_, ?_, ?_⟩
        · exact fun j hj => match j, hj with
            | 8, hj => (by rw [hl] at hj; cases hj)
            | 0, _ => rfl
            | 1, _ => rfl
            | 2, _ => rfl
            | 3, _ => rfl
            | 4, _ => rfl
            | 5, _ => rfl
            | 6, _ => rfl
            | 7, _ => rfl
            | 9, _ => rfl
            | 10, _ => rfl
            | j + 11, _ => rfl
        · show (execOp b.eval _).run _ _ = .ok (.value v') _
          exact run_op_append rfl rfl h6 h10 hr
        · refine ⟨hW.1.grown q2 hW.1.size fun k hk => owns_ge (hW.2.1 on3 hl) k hk, fun _ q => ?_, fun _ => q1, fun _ => ?_⟩
          · rw [gd_eq (by rw [hs]; decide)] at q; cases q
          · rw [gd_ne (by decide)]; exact on3)
    · exact RhoOp.call (f := 54) rfl (fun r L b w2 hs hl hR hW => by
        have h11 : b.eval (.tmp 11) = r.2 := hR.of (j := 8) (by decide) (by kernel_rfl)
        simp only [Act.eval, Array.getD_eq_getD_getElem?] at h11
        refine ⟨#[r.2], ?_, ?_⟩
        · unfold execOp
          simp [go_sem, h11]
        · have on8 := hR.on (j := 8) (by kernel_rfl)
          have hO := hW.2.2.1 on8
          refine (bytesFn (P := From w1.heap.size) (l := t.init.map Int.toNat ++ List.replicate t.procs.length 0) (HROW.out hO) HSM.out HLEN.out).mono fun e w4 h => ?_
          obtain ⟨he, hb⟩ := h
          refine ⟨r, fun _ _ => rfl, he, hW.1.trans (hb.mono hW.1.size), fun q q' => ?_, fun q => ?_, fun q => ?_⟩
          · rw [gd_ne (by decide)] at q q'
            rw [on8] at q'; cases q'
          · exact owns_below hO hb
          · rw [gd_ne (by decide)] at q ⊢
            exact hW.2.2.2 q)
    · exact RhoOp.pure rfl (fun r L b w2 hl hR hW => by
        have h12 : b.eval (.tmp 12) = .string (tbeg t) := hR.of (j := 9) (by decide) (by kernel_rfl)
        simp only [Act.eval, Array.getD_eq_getD_getElem?] at h12
        show (execOp b.eval _).run _ _ = .ok (.value (.string (tbeg t))) _
        unfold execOp
        simp [go_sem, h12]) (fun r L w2 hs h => by
        simp only [gd_ne (L := L) (i := 10) (j := 3) (by decide), gd_ne (L := L) (i := 10) (j := 8) (by decide)]
        exact h)
  · refine puts_as (ps := [(0, 3, .pointer (some ⟨b1, 0, none⟩)), (1, 4, .pointer (some ⟨b1, 0, none⟩)), (2, 5, vi), (3, 6, r.1), (4, 7, .pointer (some ⟨b1, 0, none⟩)), (5, 8, .pointer (some ⟨b1, 1, none⟩)), (6, 9, .slice ap m cp), (7, 10, .int .i64 (m : Int)), (8, 11, r.2), (9, 12, .string (tbeg t)), (10, 2, .string (tbeg t))]) rfl ?_
    simp only [puts, Act.put, List.setIfInBounds_toArray, List.set_cons_zero, List.set_cons_succ]
    obtain ⟨hb9, -⟩ := hW9
    have HB9 := Lib.hid (HB1.out.trans (hb9.mono HB1.out.size))
    clear hb9
    go_wp2
    go_ret
    exact ⟨rfl, HB9.out⟩
end Go.Proofs.Ytcopoaaofjeklaa.G
