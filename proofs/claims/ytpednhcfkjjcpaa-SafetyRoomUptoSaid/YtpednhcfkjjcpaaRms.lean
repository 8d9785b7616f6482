/- The walks of the reference's Moves and Look (printed by mkrms.py). -/
import Derived.Test.YtpednhcfkjjcpaaMg8
namespace Go.Proofs.Ytpednhcfkjjcpaa
open Go.RowKit
set_option linter.unusedVariables false
set_option linter.unusedSimpArgs false

def MovF (P : Nat → Prop) (w : World) (a : PArc × Nat) (c : List Value) : Prop := ∃ vr vw, c = mvC a.2 a.1 (toS a.1) vr vw ∧ RowL P w 1 vr a.1.reads.length (a.1.reads.map intV) ∧ RowL P w 1 vw a.1.writes.length (a.1.writes.map intV)
theorem MovF.mono {P Q : Nat → Prop} {w : World} (hl : Wide P Q w) {a : PArc × Nat} {c : List Value} (h : MovF P w a c) : MovF Q w a c := by
  obtain ⟨vr, vw, h1, h2, h3⟩ := h
  exact ⟨vr, vw, h1, h2.mono hl, h3.mono hl⟩
theorem oneMov : One MovF 9 := ⟨fun ⟨vr, vw, h, _⟩ => by rw [h]; rfl, fun ⟨vr, vw, h, h2, h3⟩ => by
  rw [h]; simp [mvC, h2.cell1, h3.cell1]; simp [Value.oneCell'], fun hu ⟨vr, vw, h1, h2, h3⟩ => ⟨vr, vw, h1, h2.up hu, h3.up hu⟩⟩
/-- The moves of a row of arcs, as a list in memory. -/
def MovesV (P : Nat → Prop) (w : World) (v : Value) (l : List PArc) : Prop := ∃ f, RowL P w 9 v l.length f ∧ LsF MovF P w l.zipIdx f
theorem zip_at {l : List PArc} {i : Nat} (h : i < l.length) : l.zipIdx[i]'(by simpa using h) = (l[i], i) := by simp
set_option maxHeartbeats 4000000 in
set_option maxRecDepth 100000 in
theorem movesFn {P P' : Nat → Prop} {w : World} {v v' : Value} {l : List PArc} (h : MovesV P w v l) (h' : MovesV P' w v' l) (hn : l.length ≤ 2000000) (hs : ∀ a ∈ l, a.reads.length ≤ 2000000 ∧ a.writes.length ≤ 2000000) : Calls Try.prog 13 #[v, v'] w (Yes w) := by
  obtain ⟨f, hr, hg⟩ := h
  obtain ⟨f', hr', hg'⟩ := h'
  obtain ⟨M, hM⟩ : ∃ M, l.length = M := ⟨_, rfl⟩
  have HM := Lib.hid hM
  have hz : l.zipIdx.length = l.length := by simp
  rw [← hz] at hr hr'
  have H := Lib.hid hr
  have H' := Lib.hid hr'
  have G := Lib.hid hg
  have G' := Lib.hid hg'
  obtain ⟨a, c, rfl, hc1, _, _⟩ := hr.form
  obtain ⟨a', c', rfl, hc1', _, _⟩ := hr'.form
  rw [hz, hM] at hc1 hc1'
  rw [hM] at hn
  have HZ := Lib.hid hz
  rw [hz, hM]
  clear hr hg hr' hg' hM hz
  go_enter Try.func13, Try.ntmps13
  go_wp2_with (fail)
  go_loopw [5] (fun x wr => ∃ i : Nat, x = .int .i64 (i : Int) ∧ i ≤ M ∧ Hid (Below w.heap.size w wr)) (fun x _ => M - (intOf x).toNat)
  case atStart => exact ⟨0, rfl, Nat.zero_le _, Below.refl _ _⟩
  case round =>
    obtain ⟨i, hx, hi, HB⟩ := hrel
    subst hx
    by_cases hin : i < M
    · have hi2i : (i : Int) < (M : Int) := by omega
      have hi0i : (0 : Int) ≤ (i : Int) := by omega
      have hwii : IntKind.i64.wrap (i : Int) = (i : Int) := by rw [IntKind.wrap_i64]; omega
      have hwji : IntKind.i64.wrap ((i : Int) + 1) = (i : Int) + 1 := by rw [IntKind.wrap_i64]; omega
      have hil : i < l.zipIdx.length := by rw [HZ.out, HM.out]; exact hin
      have hil2 : i < l.length := by rw [HM.out]; exact hin
      obtain ⟨g1, o1, q1, cs1, he1, hG1, hr1⟩ := (H.out.up (Keep.below HB.out)).atN oneMov (LsF.up (fun _ _ => oneMov.up (Keep.below HB.out)) _ G.out) hil
      obtain ⟨g2, o2, q2, cs2, he2, hG2, hr2⟩ := (H'.out.up (Keep.below HB.out)).atN oneMov (LsF.up (fun _ _ => oneMov.up (Keep.below HB.out)) _ G'.out) hil
      injection he1 with he1 hm1 he1'
      injection he2 with he2 hm2 he2'
      subst he1 he1' he2 he2'
      clear hm1 hm2
      rw [zip_at hil2] at hG1 hG2
      obtain ⟨x, hxx⟩ : ∃ x, l[i] = x := ⟨_, rfl⟩
      rw [hxx] at hG1 hG2
      have hsx := hs x (by rw [← hxx]; exact List.getElem_mem hil2)
      obtain ⟨vr, vw, rfl, p1, p2⟩ := hG1
      obtain ⟨vr', vw', rfl, p3, p4⟩ := hG2
      dsimp only at hr1 hr2 p1 p2 p3 p4
      have HR1 := Lib.hid hr1
      have HR2 := Lib.hid hr2
      have P1 := Lib.hid p1
      have P2 := Lib.hid p2
      have P3 := Lib.hid p3
      have P4 := Lib.hid p4
      clear hr1 hr2 p1 p2 p3 p4 hxx
      go_wp2_with (fail)
      refine wp_region_rho (fun (r : Unit) j => ([(.slice (some ⟨g1, o1, none⟩) M c), (.int .i64 (i : Int)), (.pointer (some ⟨g1, o1 + i * 9, none⟩)), (.agg (mvC i x (toS x) vr vw).toArray), (.slice (some ⟨g2, o2, none⟩) M c'), (.int .i64 (i : Int)), (.pointer (some ⟨g2, o2 + i * 9, none⟩)), (.agg (mvC i x (toS x) vr' vw').toArray), (.bool true), (.bool true)] : List Value).getD j undef) (fun _ L w2 => Below wr.heap.size wr w2) [(0, 18), (1, 19), (2, 20), (3, 21), (4, 22), (5, 23), (6, 24), (7, 25), (8, 26), (9, 6)] 29 rfl (by kernel_rfl) (by kernel_rfl) (by kernel_rfl) () (Below.refl _ _).drew (fun i hi => ?_) (fun r w9 hW9 => ?_)
      · have hi2 : i < 10 := hi
        clear hi
        have hi3 : i = 0 ∨ i = 1 ∨ i = 2 ∨ i = 3 ∨ i = 4 ∨ i = 5 ∨ i = 6 ∨ i = 7 ∨ i = 8 ∨ i = 9 := by omega
        clear hi2
        rcases hi3 with rfl | rfl | rfl | rfl | rfl | rfl | rfl | rfl | rfl | rfl
        · exact RhoOp.pure rfl (fun r L b w2 hl hR hW => by
            have h0 : b.eval (.tmp 0) = .slice (some ⟨g1, o1, none⟩) M c := (hR.old (by decide) (by kernel_rfl)).trans rfl
            simp only [Act.eval, Array.getD_eq_getD_getElem?] at h0
            show (execOp b.eval _).run _ _ = .ok (.value (.slice (some ⟨g1, o1, none⟩) M c)) _
            unfold execOp
            simp [go_sem, h0]) (fun _ _ _ _ h => h)
        · exact RhoOp.pure rfl (fun r L b w2 hl hR hW => by
            have h5 : b.eval (.tmp 5) = .int .i64 (i : Int) := (hR.old (by decide) (by kernel_rfl)).trans rfl
            simp only [Act.eval, Array.getD_eq_getD_getElem?] at h5
            show (execOp b.eval _).run _ _ = .ok (.value (.int .i64 (i : Int))) _
            unfold execOp
            simp [go_sem, h5]) (fun _ _ _ _ h => h)
        · exact RhoOp.pure rfl (fun r L b w2 hl hR hW => by
            have h18 : b.eval (.tmp 18) = .slice (some ⟨g1, o1, none⟩) M c := hR.of (j := 0) (by decide) (by kernel_rfl)
            have h19 : b.eval (.tmp 19) = .int .i64 (i : Int) := hR.of (j := 1) (by decide) (by kernel_rfl)
            simp only [Act.eval, Array.getD_eq_getD_getElem?] at h18 h19
            show (execOp b.eval _).run _ _ = .ok (.value (.pointer (some ⟨g1, o1 + i * 9, none⟩))) _
            unfold execOp
            simp [go_sem, h18, h19, hi0i, hi2i, hwii]) (fun _ _ _ _ h => h)
        · exact RhoOp.pure rfl (fun r L b w2 hl hR hW => by
            have hlo := run_loadAt_mid (P := Try.prog) w2 g1 (o1 + i * 9) 75 (mvC i x (toS x) vr vw) _ (range_below HR1.out hW) Try.underlying75 rfl sz_Move
            have h20 : b.eval (.tmp 20) = .pointer (some ⟨g1, o1 + i * 9, none⟩) := hR.of (j := 2) (by decide) (by kernel_rfl)
            simp only [Act.eval, Array.getD_eq_getD_getElem?] at h20
            show (execOp b.eval _).run _ _ = .ok (.value (.agg (mvC i x (toS x) vr vw).toArray)) _
            unfold execOp
            simp [Act.eval, h20, Sem.run_bind, hlo]) (fun _ _ _ _ h => h)
        · exact RhoOp.pure rfl (fun r L b w2 hl hR hW => by
            have h1 : b.eval (.tmp 1) = .slice (some ⟨g2, o2, none⟩) M c' := (hR.old (by decide) (by kernel_rfl)).trans rfl
            simp only [Act.eval, Array.getD_eq_getD_getElem?] at h1
            show (execOp b.eval _).run _ _ = .ok (.value (.slice (some ⟨g2, o2, none⟩) M c')) _
            unfold execOp
            simp [go_sem, h1]) (fun _ _ _ _ h => h)
        · exact RhoOp.pure rfl (fun r L b w2 hl hR hW => by
            have h5 : b.eval (.tmp 5) = .int .i64 (i : Int) := (hR.old (by decide) (by kernel_rfl)).trans rfl
            simp only [Act.eval, Array.getD_eq_getD_getElem?] at h5
            show (execOp b.eval _).run _ _ = .ok (.value (.int .i64 (i : Int))) _
            unfold execOp
            simp [go_sem, h5]) (fun _ _ _ _ h => h)
        · exact RhoOp.pure rfl (fun r L b w2 hl hR hW => by
            have h22 : b.eval (.tmp 22) = .slice (some ⟨g2, o2, none⟩) M c' := hR.of (j := 4) (by decide) (by kernel_rfl)
            have h23 : b.eval (.tmp 23) = .int .i64 (i : Int) := hR.of (j := 5) (by decide) (by kernel_rfl)
            simp only [Act.eval, Array.getD_eq_getD_getElem?] at h22 h23
            show (execOp b.eval _).run _ _ = .ok (.value (.pointer (some ⟨g2, o2 + i * 9, none⟩))) _
            unfold execOp
            simp [go_sem, h22, h23, hi0i, hi2i, hwii]) (fun _ _ _ _ h => h)
        · exact RhoOp.pure rfl (fun r L b w2 hl hR hW => by
            have hlo := run_loadAt_mid (P := Try.prog) w2 g2 (o2 + i * 9) 75 (mvC i x (toS x) vr' vw') _ (range_below HR2.out hW) Try.underlying75 rfl sz_Move
            have h24 : b.eval (.tmp 24) = .pointer (some ⟨g2, o2 + i * 9, none⟩) := hR.of (j := 6) (by decide) (by kernel_rfl)
            simp only [Act.eval, Array.getD_eq_getD_getElem?] at h24
            show (execOp b.eval _).run _ _ = .ok (.value (.agg (mvC i x (toS x) vr' vw').toArray)) _
            unfold execOp
            simp [Act.eval, h24, Sem.run_bind, hlo]) (fun _ _ _ _ h => h)
        · exact RhoOp.call (f := 28) rfl (fun r L b w2 hs hl hR hW => by
            have h21 : b.eval (.tmp 21) = .agg (mvC i x (toS x) vr vw).toArray := hR.of (j := 3) (by decide) (by kernel_rfl)
            have h25 : b.eval (.tmp 25) = .agg (mvC i x (toS x) vr' vw').toArray := hR.of (j := 7) (by decide) (by kernel_rfl)
            simp only [Act.eval, Array.getD_eq_getD_getElem?] at h21 h25
            refine ⟨#[.agg (mvC i x (toS x) vr vw).toArray, .agg (mvC i x (toS x) vr' vw').toArray], ?_, ?_⟩
            · unfold execOp
              simp [go_sem, h21, h25]
            · refine (moveFn (P1.out.up (Keep.below hW)) (P2.out.up (Keep.below hW)) (P3.out.up (Keep.below hW)) (P4.out.up (Keep.below hW)) hsx).mono fun e w4 h => ?_
              exact ⟨(), fun _ _ => rfl, h.1, hW.trans (h.2.mono hW.size)⟩)
        · exact RhoOp.pure rfl (fun r L b w2 hl hR hW => by
            have h26 : b.eval (.tmp 26) = .bool true := hR.of (j := 8) (by decide) (by kernel_rfl)
            simp only [Act.eval, Array.getD_eq_getD_getElem?] at h26
            show (execOp b.eval _).run _ _ = .ok (.value (.bool true)) _
            unfold execOp
            simp [go_sem, h26]) (fun _ _ _ _ h => h)
      · refine puts_as (ps := [(0, 18, .slice (some ⟨g1, o1, none⟩) M c), (1, 19, .int .i64 (i : Int)), (2, 20, .pointer (some ⟨g1, o1 + i * 9, none⟩)), (3, 21, .agg (mvC i x (toS x) vr vw).toArray), (4, 22, .slice (some ⟨g2, o2, none⟩) M c'), (5, 23, .int .i64 (i : Int)), (6, 24, .pointer (some ⟨g2, o2 + i * 9, none⟩)), (7, 25, .agg (mvC i x (toS x) vr' vw').toArray), (8, 26, .bool true), (9, 6, .bool true)]) rfl ?_
        simp only [puts, Act.put, List.setIfInBounds_toArray, List.set_cons_zero, List.set_cons_succ]
        have HB9 : Hid (Below w.heap.size w w9) := HB.out.trans (hW9.mono HB.out.size)
        clear hW9 HR1 HR2 P1 P2 P3 P4
        go_wp2
        go_roundw
        case rel => exact ⟨i + 1, by simp, by omega, HB9.out⟩
        case measure => (simp [intOf]) <;> omega
    · have hin2 : ¬ (i : Int) < (M : Int) := by omega
      go_wp2
      go_ret
      exact ⟨rfl, HB.out⟩
end Go.Proofs.Ytpednhcfkjjcpaa
