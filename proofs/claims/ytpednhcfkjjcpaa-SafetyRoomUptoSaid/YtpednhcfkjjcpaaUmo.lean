/- The walk of the reference's Moves at two rows of the same moves. (printed by mkumo.py) -/
import Derived.Test.YtpednhcfkjjcpaaMg10
namespace Go.Proofs.Ytpednhcfkjjcpaa.G
open Go.RowKit Go.Maps
set_option linter.unusedVariables false
set_option linter.unusedSimpArgs false

set_option maxHeartbeats 2000000 in
set_option maxRecDepth 100000 in
theorem movesSame {P P' : Nat → Prop} {w : World} {v v' : Value} {l : List PMove} (h : MvsV P w v l) (h' : MvsV P' w v' l) (hr : ∀ m ∈ l, m.reads.length ≤ 2000000 ∧ m.writes.length ≤ 2000000) (hn : l.length ≤ 2000000) : Calls Try.prog 13 #[v, v'] w (BoolB true w) := by
  have hf : ∃ a c, v = .slice a l.length c := by obtain ⟨f, h1, _⟩ := h; obtain ⟨a, c, h2, _⟩ := h1.form; exact ⟨a, c, h2⟩
  have hf' : ∃ a c, v' = .slice a l.length c := by obtain ⟨f, h1, _⟩ := h'; obtain ⟨a, c, h2, _⟩ := h1.form; exact ⟨a, c, h2⟩
  obtain ⟨aE, cE, rfl⟩ := hf
  obtain ⟨aM, cM, rfl⟩ := hf'
  obtain ⟨N, hN⟩ : ∃ N, l.length = N := ⟨_, rfl⟩
  have HN := Lib.hid hN
  rw [hN] at h h' hn ⊢
  have HE := Lib.hid h
  have HM := Lib.hid h'
  have HR := Lib.hid hr
  have d0 : ((N : Int) != (N : Int)) = false := by simp
  clear h h' hr hN
  go_enter Try.func13, Try.ntmps13
  go_wp2
  go_loopw [5] (fun x wr => ∃ i : Nat, x = .int .i64 (i : Int) ∧ i ≤ N ∧ Hid (Below w.heap.size w wr)) (fun x _ => N - (intOf x).toNat)
  case atStart => exact ⟨0, rfl, Nat.zero_le _, Below.refl _ _⟩
  case round =>
    obtain ⟨i, hx, hi, HB⟩ := hrel
    subst hx
    by_cases hin : i < N
    · have hil : i < l.length := by rw [HN.out]; exact hin
      have hi2i : (i : Int) < (N : Int) := by omega
      have hi0i : (0 : Int) ≤ (i : Int) := by omega
      have hwii : IntKind.i64.wrap (i : Int) = (i : Int) := by rw [IntKind.wrap_i64]; omega
      have hwji : IntKind.i64.wrap ((i : Int) + 1) = (i : Int) + 1 := by rw [IntKind.wrap_i64]; omega
      obtain ⟨m, hm⟩ : ∃ m, l[i] = m := ⟨_, rfl⟩
      have hmi := HR.out m (by rw [← hm]; exact List.getElem_mem hil)
      have hve := HE.out.up (Keep.below HB.out)
      have hvm := HM.out.up (Keep.below HB.out)
      obtain ⟨gE, oE, cE', hee⟩ := hve.ptr HN.out (by omega)
      injection hee with hee _ hee2
      subst hee hee2
      obtain ⟨gM, oM, cM', hmm⟩ := hvm.ptr HN.out (by omega)
      injection hmm with hmm _ hmm2
      subst hmm hmm2
      obtain ⟨xE, hGE, hrE⟩ := hve.elem i hil
      obtain ⟨xM, hGM, hrM⟩ := hvm.elem i hil
      rw [hm] at hGE hGM
      have HVA : Hid (∀ V, Below wr.heap.size wr V → Calls Try.prog 28 #[.agg xE.toArray, .agg xM.toArray] V (BoolB true V)) := fun V hV => moveEq (oneMv.up (Keep.below hV) hGE) (oneMv.up (Keep.below hV) hGM) hmi
      obtain ⟨a1, c1, a2, c2, rfl, -, -⟩ := mvF_box hGE
      obtain ⟨a3, c3, a4, c4, rfl, -, -⟩ := mvF_box hGM
      obtain ⟨n1, hn1⟩ : ∃ n, m.reads.length = n := ⟨_, rfl⟩
      obtain ⟨n2, hn2⟩ : ∃ n, m.writes.length = n := ⟨_, rfl⟩
      rw [hn1, hn2] at hrE hrM HVA
      have HRE : Hid (wr.rangeAt gE (oE + i * 9) [.int .i64 m.proc, .int .i64 m.edge, .int .i64 m.wth, .int .i64 m.wthE, .string m.dst, .int .i64 m.bad, .slice a1 n1 c1, .slice a2 n2 c2, .int .u64 (m.turns : Int)]) := hrE
      have HRM : Hid (wr.rangeAt gM (oM + i * 9) [.int .i64 m.proc, .int .i64 m.edge, .int .i64 m.wth, .int .i64 m.wthE, .string m.dst, .int .i64 m.bad, .slice a3 n1 c3, .slice a4 n2 c4, .int .u64 (m.turns : Int)]) := hrM
      have HVB : Hid (∀ V, Below wr.heap.size wr V → Calls Try.prog 28 #[.agg #[.int .i64 m.proc, .int .i64 m.edge, .int .i64 m.wth, .int .i64 m.wthE, .string m.dst, .int .i64 m.bad, .slice a1 n1 c1, .slice a2 n2 c2, .int .u64 (m.turns : Int)], .agg #[.int .i64 m.proc, .int .i64 m.edge, .int .i64 m.wth, .int .i64 m.wthE, .string m.dst, .int .i64 m.bad, .slice a3 n1 c3, .slice a4 n2 c4, .int .u64 (m.turns : Int)]] V (BoolB true V)) := HVA
      clear hm hil hmi hve hvm hGE hGM hrE hrM HVA hn1 hn2
      go_wp2_with (fail)
      refine wp_region_rho (fun (r : Unit) j => ([(.slice (some ⟨gE, oE, none⟩) N cE), (.int .i64 (i : Int)), (.pointer (some ⟨gE, oE + i * 9, none⟩)), (.agg #[.int .i64 m.proc, .int .i64 m.edge, .int .i64 m.wth, .int .i64 m.wthE, .string m.dst, .int .i64 m.bad, .slice a1 n1 c1, .slice a2 n2 c2, .int .u64 (m.turns : Int)]), (.slice (some ⟨gM, oM, none⟩) N cM), (.int .i64 (i : Int)), (.pointer (some ⟨gM, oM + i * 9, none⟩)), (.agg #[.int .i64 m.proc, .int .i64 m.edge, .int .i64 m.wth, .int .i64 m.wthE, .string m.dst, .int .i64 m.bad, .slice a3 n1 c3, .slice a4 n2 c4, .int .u64 (m.turns : Int)]), (.bool true), (.bool true)] : List Value).getD j undef) (fun _ L w2 => Below wr.heap.size wr w2) [(0, 18), (1, 19), (2, 20), (3, 21), (4, 22), (5, 23), (6, 24), (7, 25), (8, 26), (9, 6)] 29 rfl (by kernel_rfl) (by kernel_rfl) (by kernel_rfl) () (Below.refl _ _).drew (fun i hi => ?_) (fun r w9 hW9 => ?_)
      · have hi2 : i < 10 := hi
        clear hi
        have hi3 : i = 0 ∨ i = 1 ∨ i = 2 ∨ i = 3 ∨ i = 4 ∨ i = 5 ∨ i = 6 ∨ i = 7 ∨ i = 8 ∨ i = 9 := by omega
        clear hi2
        rcases hi3 with rfl | rfl | rfl | rfl | rfl | rfl | rfl | rfl | rfl | rfl
        · exact RhoOp.pure rfl (fun r L b w2 hl hR hW => by
            have h0 : b.eval (.tmp 0) = .slice (some ⟨gE, oE, none⟩) N cE := (hR.old (by decide) (by kernel_rfl)).trans rfl
            simp only [Act.eval, Array.getD_eq_getD_getElem?] at h0
            show (execOp b.eval _).run _ _ = .ok (.value (.slice (some ⟨gE, oE, none⟩) N cE)) _
            unfold execOp
            simp [go_sem, h0]) (fun _ _ _ _ h => h)
        · exact RhoOp.pure rfl (fun r L b w2 hl hR hW => by
            have h5 : b.eval (.tmp 5) = .int .i64 (i : Int) := (hR.old (by decide) (by kernel_rfl)).trans rfl
            simp only [Act.eval, Array.getD_eq_getD_getElem?] at h5
            show (execOp b.eval _).run _ _ = .ok (.value (.int .i64 (i : Int))) _
            unfold execOp
            simp [go_sem, h5]) (fun _ _ _ _ h => h)
        · exact RhoOp.pure rfl (fun r L b w2 hl hR hW => by
            have h18 : b.eval (.tmp 18) = .slice (some ⟨gE, oE, none⟩) N cE := hR.of (j := 0) (by decide) (by kernel_rfl)
            have h19 : b.eval (.tmp 19) = .int .i64 (i : Int) := hR.of (j := 1) (by decide) (by kernel_rfl)
            simp only [Act.eval, Array.getD_eq_getD_getElem?] at h18 h19
            show (execOp b.eval _).run _ _ = .ok (.value (.pointer (some ⟨gE, oE + i * 9, none⟩))) _
            unfold execOp
            simp [go_sem, h18, h19, hi0i, hi2i, hwii]) (fun _ _ _ _ h => h)
        · exact RhoOp.pure rfl (fun r L b w2 hl hR hW => by
            have hlo := run_loadAt_mid (P := Try.prog) w2 gE (oE + i * 9) 75 [.int .i64 m.proc, .int .i64 m.edge, .int .i64 m.wth, .int .i64 m.wthE, .string m.dst, .int .i64 m.bad, .slice a1 n1 c1, .slice a2 n2 c2, .int .u64 (m.turns : Int)] _ (range_below HRE.out hW) Try.underlying75 rfl sz_Move
            have h20 : b.eval (.tmp 20) = .pointer (some ⟨gE, oE + i * 9, none⟩) := hR.of (j := 2) (by decide) (by kernel_rfl)
            simp only [Act.eval, Array.getD_eq_getD_getElem?] at h20
            show (execOp b.eval _).run _ _ = .ok (.value (.agg #[.int .i64 m.proc, .int .i64 m.edge, .int .i64 m.wth, .int .i64 m.wthE, .string m.dst, .int .i64 m.bad, .slice a1 n1 c1, .slice a2 n2 c2, .int .u64 (m.turns : Int)])) _
            unfold execOp
            simp [Act.eval, h20, Sem.run_bind, hlo]) (fun _ _ _ _ h => h)
        · exact RhoOp.pure rfl (fun r L b w2 hl hR hW => by
            have h1 : b.eval (.tmp 1) = .slice (some ⟨gM, oM, none⟩) N cM := (hR.old (by decide) (by kernel_rfl)).trans rfl
            simp only [Act.eval, Array.getD_eq_getD_getElem?] at h1
            show (execOp b.eval _).run _ _ = .ok (.value (.slice (some ⟨gM, oM, none⟩) N cM)) _
            unfold execOp
            simp [go_sem, h1]) (fun _ _ _ _ h => h)
        · exact RhoOp.pure rfl (fun r L b w2 hl hR hW => by
            have h5 : b.eval (.tmp 5) = .int .i64 (i : Int) := (hR.old (by decide) (by kernel_rfl)).trans rfl
            simp only [Act.eval, Array.getD_eq_getD_getElem?] at h5
            show (execOp b.eval _).run _ _ = .ok (.value (.int .i64 (i : Int))) _
            unfold execOp
            simp [go_sem, h5]) (fun _ _ _ _ h => h)
        · exact RhoOp.pure rfl (fun r L b w2 hl hR hW => by
            have h22 : b.eval (.tmp 22) = .slice (some ⟨gM, oM, none⟩) N cM := hR.of (j := 4) (by decide) (by kernel_rfl)
            have h23 : b.eval (.tmp 23) = .int .i64 (i : Int) := hR.of (j := 5) (by decide) (by kernel_rfl)
            simp only [Act.eval, Array.getD_eq_getD_getElem?] at h22 h23
            show (execOp b.eval _).run _ _ = .ok (.value (.pointer (some ⟨gM, oM + i * 9, none⟩))) _
            unfold execOp
            simp [go_sem, h22, h23, hi0i, hi2i, hwii]) (fun _ _ _ _ h => h)
        · exact RhoOp.pure rfl (fun r L b w2 hl hR hW => by
            have hlo := run_loadAt_mid (P := Try.prog) w2 gM (oM + i * 9) 75 [.int .i64 m.proc, .int .i64 m.edge, .int .i64 m.wth, .int .i64 m.wthE, .string m.dst, .int .i64 m.bad, .slice a3 n1 c3, .slice a4 n2 c4, .int .u64 (m.turns : Int)] _ (range_below HRM.out hW) Try.underlying75 rfl sz_Move
            have h24 : b.eval (.tmp 24) = .pointer (some ⟨gM, oM + i * 9, none⟩) := hR.of (j := 6) (by decide) (by kernel_rfl)
            simp only [Act.eval, Array.getD_eq_getD_getElem?] at h24
            show (execOp b.eval _).run _ _ = .ok (.value (.agg #[.int .i64 m.proc, .int .i64 m.edge, .int .i64 m.wth, .int .i64 m.wthE, .string m.dst, .int .i64 m.bad, .slice a3 n1 c3, .slice a4 n2 c4, .int .u64 (m.turns : Int)])) _
            unfold execOp
            simp [Act.eval, h24, Sem.run_bind, hlo]) (fun _ _ _ _ h => h)
        · exact RhoOp.call (f := 28) rfl (fun r L b w2 hs hl hR hW => by
            have h21 : b.eval (.tmp 21) = .agg #[.int .i64 m.proc, .int .i64 m.edge, .int .i64 m.wth, .int .i64 m.wthE, .string m.dst, .int .i64 m.bad, .slice a1 n1 c1, .slice a2 n2 c2, .int .u64 (m.turns : Int)] := hR.of (j := 3) (by decide) (by kernel_rfl)
            have h25 : b.eval (.tmp 25) = .agg #[.int .i64 m.proc, .int .i64 m.edge, .int .i64 m.wth, .int .i64 m.wthE, .string m.dst, .int .i64 m.bad, .slice a3 n1 c3, .slice a4 n2 c4, .int .u64 (m.turns : Int)] := hR.of (j := 7) (by decide) (by kernel_rfl)
            simp only [Act.eval, Array.getD_eq_getD_getElem?] at h21 h25
            refine ⟨#[.agg #[.int .i64 m.proc, .int .i64 m.edge, .int .i64 m.wth, .int .i64 m.wthE, .string m.dst, .int .i64 m.bad, .slice a1 n1 c1, .slice a2 n2 c2, .int .u64 (m.turns : Int)], .agg #[.int .i64 m.proc, .int .i64 m.edge, .int .i64 m.wth, .int .i64 m.wthE, .string m.dst, .int .i64 m.bad, .slice a3 n1 c3, .slice a4 n2 c4, .int .u64 (m.turns : Int)]], ?_, ?_⟩
            · unfold execOp
              simp [go_sem, h21, h25]
            · refine (HVB.out w2 hW).mono fun e w4 h => ?_
              exact ⟨(), fun _ _ => rfl, h.1, hW.trans (h.2.mono hW.size)⟩)
        · exact RhoOp.pure rfl (fun r L b w2 hl hR hW => by
            have h26 : b.eval (.tmp 26) = .bool true := hR.of (j := 8) (by decide) (by kernel_rfl)
            simp only [Act.eval, Array.getD_eq_getD_getElem?] at h26
            show (execOp b.eval _).run _ _ = .ok (.value (.bool true)) _
            unfold execOp
            simp [go_sem, h26]) (fun _ _ _ _ h => h)
      · refine puts_as (ps := [(0, 18, .slice (some ⟨gE, oE, none⟩) N cE), (1, 19, .int .i64 (i : Int)), (2, 20, .pointer (some ⟨gE, oE + i * 9, none⟩)), (3, 21, .agg #[.int .i64 m.proc, .int .i64 m.edge, .int .i64 m.wth, .int .i64 m.wthE, .string m.dst, .int .i64 m.bad, .slice a1 n1 c1, .slice a2 n2 c2, .int .u64 (m.turns : Int)]), (4, 22, .slice (some ⟨gM, oM, none⟩) N cM), (5, 23, .int .i64 (i : Int)), (6, 24, .pointer (some ⟨gM, oM + i * 9, none⟩)), (7, 25, .agg #[.int .i64 m.proc, .int .i64 m.edge, .int .i64 m.wth, .int .i64 m.wthE, .string m.dst, .int .i64 m.bad, .slice a3 n1 c3, .slice a4 n2 c4, .int .u64 (m.turns : Int)]), (8, 26, .bool true), (9, 6, .bool true)]) rfl ?_
        simp only [puts, Act.put, List.setIfInBounds_toArray, List.set_cons_zero, List.set_cons_succ]
        have HB9 : Hid (Below w.heap.size w w9) := HB.out.trans (hW9.mono HB.out.size)
        clear hW9 HVB HRE HRM
        go_wp2
        refine ⟨⟨i + 1, by simp, by omega, HB9⟩, ?_⟩
        simp [intOf]
        omega
    · obtain rfl : i = N := by omega
      go_wp2
      go_ret
      exact ⟨rfl, HB.out⟩
end Go.Proofs.Ytpednhcfkjjcpaa.G
