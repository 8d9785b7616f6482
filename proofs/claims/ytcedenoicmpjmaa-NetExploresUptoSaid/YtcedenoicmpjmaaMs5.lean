/- Rmv, Rms, Rlk, joined. -/
import Derived.Test.YtcedenoicmpjmaaOwn
import Derived.Test.YtcedenoicmpjmaaRnum
import Derived.Test.YtcedenoicmpjmaaRnums
import Derived.Test.YtcedenoicmpjmaaRchk
section
/- The walks of the reference's Move, copies, Bytes; the statements' pick. -/
namespace Go.Proofs.Ytcedenoicmpjmaa
open Go.RowKit
set_option linter.unusedVariables false
set_option linter.unusedSimpArgs false

set_option maxHeartbeats 4000000 in
set_option maxRecDepth 100000 in
theorem moveFn {P P' : Nat → Prop} {w : World} {k : Nat} {a : PArc} {s : ByteArray} {vr vw vr' vw' : Value} (h1 : RowL P w 1 vr a.reads.length (a.reads.map intV)) (h2 : RowL P w 1 vw a.writes.length (a.writes.map intV)) (h3 : RowL P' w 1 vr' a.reads.length (a.reads.map intV)) (h4 : RowL P' w 1 vw' a.writes.length (a.writes.map intV)) (hn : a.reads.length ≤ 2000000 ∧ a.writes.length ≤ 2000000) :
    Calls Try.prog 44 #[.agg (mvC k a s vr vw).toArray, .agg (mvC k a s vr' vw').toArray] w (Yes w) := by
  obtain ⟨a1, c1, rfl, _, _, _⟩ := h1.form
  obtain ⟨a2, c2, rfl, _, _, _⟩ := h2.form
  obtain ⟨a3, c3, rfl, _, _, _⟩ := h3.form
  obtain ⟨a4, c4, rfl, _, _, _⟩ := h4.form
  obtain ⟨w1, hw1⟩ : ∃ W, W = (w.alloc (.cells #[.int .i64 a.proc, .int .i64 (k : Int), .int .i64 (-1), .int .i64 (-1), .string s, .int .i64 a.bad, .slice a1 a.reads.length c1, .slice a2 a.writes.length c2, .int .u64 (a.turns : Int)] 79)).alloc (.cells #[.int .i64 a.proc, .int .i64 (k : Int), .int .i64 (-1), .int .i64 (-1), .string s, .int .i64 a.bad, .slice a3 a.reads.length c3, .slice a4 a.writes.length c4, .int .u64 (a.turns : Int)] 79) := ⟨_, rfl⟩
  have hb1 : Below w.heap.size w w1 := by rw [hw1]; exact ((Below.refl _ _).alloc (Nat.le_refl _) _).alloc (by simp) _
  have d1 : Holds w1 w.heap.size 79 (mvC k a s (.slice a1 a.reads.length c1) (.slice a2 a.writes.length c2)) := by
    rw [hw1]
    exact (Holds.new w 79 (mvC k a s (.slice a1 a.reads.length c1) (.slice a2 a.writes.length c2)).toArray).alloc _
  have d2 : Holds w1 (w.heap.size + 1) 79 (mvC k a s (.slice a3 a.reads.length c3) (.slice a4 a.writes.length c4)) := by
    have h := Holds.new (w.alloc (.cells (mvC k a s (.slice a1 a.reads.length c1) (.slice a2 a.writes.length c2)).toArray 79)) 79 (mvC k a s (.slice a3 a.reads.length c3) (.slice a4 a.writes.length c4)).toArray
    simp only [World.size_alloc] at h
    rw [hw1]
    exact h
  have HB1 := Lib.hid hb1
  have D1 := Lib.hid d1
  have D2 := Lib.hid d2
  have H1 := Lib.hid (h1.up (Keep.below hb1))
  have H2 := Lib.hid (h2.up (Keep.below hb1))
  have H3 := Lib.hid (h3.up (Keep.below hb1))
  have H4 := Lib.hid (h4.up (Keep.below hb1))
  have e6 := d1.cell 6
  have f6 := d2.cell 6
  simp only [mvC, List.getElem?_cons_zero, List.getElem?_cons_succ] at e6 f6 ⊢
  rw [hw1] at e6 f6
  clear hb1 d1 d2 h1 h2 h3 h4
  go_enter Try.func44, Try.ntmps44
  go_wp2_with (fail)
  rw [← hw1]
  clear hw1 e6 f6
  refine (sameFn H1.out H3.out hn.1).mono ?_
  rintro e w2 ⟨rfl, hb2⟩
  have e7 := (D1.out.belowAll hb2).cell 7
  have f7 := (D2.out.belowAll hb2).cell 7
  simp only [mvC, List.getElem?_cons_zero, List.getElem?_cons_succ] at e7 f7
  have H22 := Lib.hid (H2.out.up (Keep.below hb2))
  have H42 := Lib.hid (H4.out.up (Keep.below hb2))
  have HB2 : Hid (Below w.heap.size w w2) := HB1.out.trans (hb2.mono HB1.out.size)
  have D12 := Lib.hid (D1.out.belowAll hb2)
  have D22 := Lib.hid (D2.out.belowAll hb2)
  clear hb2 D1 D2 H2 H4
  go_wp2_with (fail)
  refine (sameFn H22.out H42.out hn.2).mono ?_
  rintro e w3 ⟨rfl, hb3⟩
  have E := D12.out.belowAll hb3
  have G := D22.out.belowAll hb3
  have e0 := E.cell 0
  have e1 := E.cell 1
  have e2 := E.cell 2
  have e3 := E.cell 3
  have e4 := E.cell 4
  have e5 := E.cell 5
  have e8 := E.cell 8
  have g0 := G.cell 0
  have g1 := G.cell 1
  have g2 := G.cell 2
  have g3 := G.cell 3
  have g4 := G.cell 4
  have g5 := G.cell 5
  have g8 := G.cell 8
  simp only [mvC, List.getElem?_cons_zero, List.getElem?_cons_succ] at e0 e1 e2 e3 e4 e5 e8 g0 g1 g2 g3 g4 g5 g8
  have HB3 : Hid (Below w.heap.size w w3) := HB2.out.trans (hb3.mono HB2.out.size)
  clear hb3 E G e7 f7
  go_wp2
  go_ret
  exact ⟨rfl, HB3.out⟩
def CopiesPost (l : List Int) (w : World) (e : Ending) (w' : World) : Prop := Below w.heap.size w w' ∧ ∃ v, e = .returned v ∧ RowX w.heap.size w' v l
set_option maxHeartbeats 1000000 in
set_option maxRecDepth 100000 in
theorem copiesFn {P : Nat → Prop} {w : World} {v : Value} {l : List Int} (h : RowL P w 1 v l.length (l.map intV)) (hn : l.length ≤ 2000000) : Calls Try.prog 35 #[v] w (CopiesPost l w) := by
  obtain ⟨n, hnl⟩ : ∃ n, l.length = n := ⟨_, rfl⟩
  have HN := Lib.hid hnl
  have H := Lib.hid h
  obtain ⟨i0, z0, hi0, hz0, hz1, hz2, hz3⟩ := info_of info_int
  have hone : ∀ u ∈ l.map intV, u.oneCell' = true := fun u hu => by
    obtain ⟨z, _, rfl⟩ := List.mem_map.1 hu
    rfl
  clear h hnl
  go_enter Try.func35, Try.ntmps35
  go_wp2_with (refine halt_call2 { callee := .builtin .append, args := #[.tmp 4, .tmp 5], argTypes := #[44, 44] } rfl ?_)
  refine Stop.mk ?_
  refine wpList_append_row rfl (.tmp 4) (.tmp 5) _ rfl w.heap.size 3 i0 z0 1 8 Try.underlying44 hi0 hz0 hz1 hz2 hz3 (by omega) (.slice none 0 0) 0 [] rfl (World.ownsRow_nil _ _ _ _) v n (l.map intV) rfl (by rw [← HN.out]; exact H.out) hone (by unfold maxLen; have := HN.out; omega) (by have := HN.out; omega) (Nat.le_refl _) ?_
  intro v' w' hown hgr _
  rw [Nat.zero_add, List.nil_append] at hown
  have HB : Hid (Below w.heap.size w w') := (Below.refl _ w).grown hgr (Nat.le_refl _) fun k hk => by simp [Value.ownBlock] at hk
  have HX : Hid (RowX w.heap.size w' v' l) := by
    refine ⟨.inr ?_, ?_⟩
    · rw [HN.out]; exact hown
    · have h3 := RowL.of_owns (P := From w.heap.size) hown fun k hk => hk
      rw [← HN.out] at h3
      exact h3
  clear hown hgr
  go_wp2
  go_ret
  exact ⟨HB.out, v', rfl, HX.out⟩
theorem key_add (m : Nat) : (⟨#[]⟩ : ByteArray) ++ ⟨(enc m).toArray⟩ = keyS m := by
  apply ByteArray.ext
  simp [keyS, ByteArray.append_eq]
set_option maxHeartbeats 1000000 in
set_option maxRecDepth 100000 in
theorem refBytesFn {P : Nat → Prop} {w : World} {v : Value} {m : Nat} (h : RowL P w 1 v 1 [.int .i64 (m : Int)]) (hm : m < 9223372036854775808) : Calls Try.prog 16 #[v] w (fun e w' => e = .returned (.string (keyS m)) ∧ Below w.heap.size w w') := by
  obtain ⟨g, o, cap, rfl⟩ := h.some (by omega)
  have H := Lib.hid h
  have HMM := Lib.hid hm
  have hwu : IntKind.u64.wrap (m : Int) = (m : Int) := by rw [IntKind.wrap_u64]; omega
  have HC := Lib.hid (refNumber m (by omega))
  clear h hm
  go_enter Try.func16, Try.ntmps16
  go_wp2
  go_loopw [3, 4] (fun s x wr => ∃ i : Nat, x = .int .i64 (i : Int) ∧ i ≤ 1 ∧ s = .string (if i = 0 then ⟨#[]⟩ else keyS m) ∧ Hid (Below w.heap.size w wr)) (fun _ x _ => 1 - (intOf x).toNat)
  case atStart => exact ⟨0, rfl, Nat.zero_le _, rfl, Below.refl _ _⟩
  case round =>
    obtain ⟨i, hx, hi, hs, HB⟩ := hrel
    subst hx
    subst hs
    by_cases hi0 : i = 0
    · subst hi0
      have c0 := (H.out.up (Keep.below HB.out)).at1 (i := 0) (by omega)
      obtain ⟨g', o', cap', x, h1, h2, h3⟩ := c0
      injection h1 with h1 _ h4
      injection h1 with h1
      injection h1 with h1 h1'
      subst h1 h1' h4
      injection h2 with h2
      subst h2
      rw [Nat.add_zero] at h3
      go_wp2_with (fail)
      refine (HC.out _).mono ?_
      rintro e w2 ⟨rfl, hb2⟩
      have HB2 : Hid (Below w.heap.size w w2) := HB.out.trans (hb2.mono HB.out.size)
      have hlen := enc_len64 (n := m) (by have := HMM.out; omega)
      have hcat : ¬ 9223372036854775807 < (enc m).length := by omega
      clear hb2 hlen
      go_wp2
      go_roundw
      case rel => exact ⟨1, rfl, Nat.le_refl _, by rw [key_add]; rfl, HB2.out⟩
      case measure => (simp [intOf]) <;> omega
    · obtain rfl : i = 1 := by omega
      have hne : (if (1 : Nat) = 0 then (⟨#[]⟩ : ByteArray) else keyS m) = keyS m := rfl
      rw [hne]
      go_wp2
      go_ret
      exact ⟨rfl, HB.out⟩
end Go.Proofs.Ytcedenoicmpjmaa
end
section
/- The walks of the reference's Moves and Look (printed by mkrms.py). -/
namespace Go.Proofs.Ytcedenoicmpjmaa
open Go.RowKit
set_option linter.unusedVariables false
set_option linter.unusedSimpArgs false

def MovF (P : Nat → Prop) (w : World) (a : PArc × Nat) (c : List Value) : Prop := ∃ vr vw, c = mvC a.2 a.1 (toS a.1) vr vw ∧ RowL P w 1 vr a.1.reads.length (a.1.reads.map intV) ∧ RowL P w 1 vw a.1.writes.length (a.1.writes.map intV)
theorem MovF.mono {P Q : Nat → Prop} {w : World} (hl : Wide P Q w) {a : PArc × Nat} {c : List Value} (h : MovF P w a c) : MovF Q w a c := by
  obtain ⟨vr, vw, h1, h2, h3⟩ := h
  exact ⟨vr, vw, h1, h2.mono hl, h3.mono hl⟩
theorem oneMov : One MovF 9 := ⟨fun ⟨vr, vw, h, _⟩ => by rw [h]; rfl, fun ⟨vr, vw, h, h2, h3⟩ => by
  rw [h]; simp [mvC, h2.cell1, h3.cell1]; simp [Value.oneCell'], fun hu ⟨vr, vw, h1, h2, h3⟩ => ⟨vr, vw, h1, h2.up hu, h3.up hu⟩⟩
/-- The moves of a row of arcs, as a list in memory. -/
def MovesV (P : Nat → Prop) (w : World) (v : Value) (l : List PArc) : Prop := ∃ f, RowL P w 9 v l.length f ∧ LsF MovF P w l.zipIdx f
theorem zip_at {l : List PArc} {i : Nat} (h : i < l.length) : l.zipIdx[i]'(by simpa using h) = (l[i], i) := by simp
set_option maxHeartbeats 4000000 in
set_option maxRecDepth 100000 in
theorem movesFn {P P' : Nat → Prop} {w : World} {v v' : Value} {l : List PArc} (h : MovesV P w v l) (h' : MovesV P' w v' l) (hn : l.length ≤ 2000000) (hs : ∀ a ∈ l, a.reads.length ≤ 2000000 ∧ a.writes.length ≤ 2000000) : Calls Try.prog 33 #[v, v'] w (Yes w) := by
  obtain ⟨f, hr, hg⟩ := h
  obtain ⟨f', hr', hg'⟩ := h'
  obtain ⟨M, hM⟩ : ∃ M, l.length = M := ⟨_, rfl⟩
  have HM := Lib.hid hM
  have hz : l.zipIdx.length = l.length := by simp
  rw [← hz] at hr hr'
  have H := Lib.hid hr
  have H' := Lib.hid hr'
  have G := Lib.hid hg
  have G' := Lib.hid hg'
  obtain ⟨a, c, rfl, hc1, _, _⟩ := hr.form
  obtain ⟨a', c', rfl, hc1', _, _⟩ := hr'.form
  rw [hz, hM] at hc1 hc1'
  rw [hM] at hn
  have HZ := Lib.hid hz
  rw [hz, hM]
  clear hr hg hr' hg' hM hz
  go_enter Try.func33, Try.ntmps33
  go_wp2_with (fail)
  go_loopw [5] (fun x wr => ∃ i : Nat, x = .int .i64 (i : Int) ∧ i ≤ M ∧ Hid (Below w.heap.size w wr)) (fun x _ => M - (intOf x).toNat)
  case atStart => exact ⟨0, rfl, Nat.zero_le _, Below.refl _ _⟩
  case round =>
    obtain ⟨i, hx, hi, HB⟩ := hrel
    subst hx
    by_cases hin : i < M
    · have hi2i : (i : Int) < (M : Int) := by omega
      have hi0i : (0 : Int) ≤ (i : Int) := by omega
      have hwii : IntKind.i64.wrap (i : Int) = (i : Int) := by rw [IntKind.wrap_i64]; omega
      have hwji : IntKind.i64.wrap ((i : Int) + 1) = (i : Int) + 1 := by rw [IntKind.wrap_i64]; omega
      have hil : i < l.zipIdx.length := by rw [HZ.out, HM.out]; exact hin
      have hil2 : i < l.length := by rw [HM.out]; exact hin
      obtain ⟨g1, o1, q1, cs1, he1, hG1, hr1⟩ := (H.out.up (Keep.below HB.out)).atN oneMov (LsF.up (fun _ _ => oneMov.up (Keep.below HB.out)) _ G.out) hil
      obtain ⟨g2, o2, q2, cs2, he2, hG2, hr2⟩ := (H'.out.up (Keep.below HB.out)).atN oneMov (LsF.up (fun _ _ => oneMov.up (Keep.below HB.out)) _ G'.out) hil
      injection he1 with he1 hm1 he1'
      injection he2 with he2 hm2 he2'
      subst he1 he1' he2 he2'
      clear hm1 hm2
      rw [zip_at hil2] at hG1 hG2
      obtain ⟨x, hxx⟩ : ∃ x, l[i] = x := ⟨_, rfl⟩
      rw [hxx] at hG1 hG2
      have hsx := hs x (by rw [← hxx]; exact List.getElem_mem hil2)
      obtain ⟨vr, vw, rfl, p1, p2⟩ := hG1
      obtain ⟨vr', vw', rfl, p3, p4⟩ := hG2
      dsimp only at hr1 hr2 p1 p2 p3 p4
      have HR1 := Lib.hid hr1
      have HR2 := Lib.hid hr2
      have P1 := Lib.hid p1
      have P2 := Lib.hid p2
      have P3 := Lib.hid p3
      have P4 := Lib.hid p4
      clear hr1 hr2 p1 p2 p3 p4 hxx
      go_wp2_with (fail)
      refine wp_region_rho (fun (r : Unit) j => ([(.slice (some ⟨g1, o1, none⟩) M c), (.int .i64 (i : Int)), (.pointer (some ⟨g1, o1 + i * 9, none⟩)), (.agg (mvC i x (toS x) vr vw).toArray), (.slice (some ⟨g2, o2, none⟩) M c'), (.int .i64 (i : Int)), (.pointer (some ⟨g2, o2 + i * 9, none⟩)), (.agg (mvC i x (toS x) vr' vw').toArray), (.bool true), (.bool true)] : List Value).getD j undef) (fun _ L w2 => Below wr.heap.size wr w2) [(0, 18), (1, 19), (2, 20), (3, 21), (4, 22), (5, 23), (6, 24), (7, 25), (8, 26), (9, 6)] 29 rfl (by kernel_rfl) (by kernel_rfl) (by kernel_rfl) () (Below.refl _ _).drew (fun i hi => ?_) (fun r w9 hW9 => ?_)
      · have hi2 : i < 10 := hi
        clear hi
        have hi3 : i = 0 ∨ i = 1 ∨ i = 2 ∨ i = 3 ∨ i = 4 ∨ i = 5 ∨ i = 6 ∨ i = 7 ∨ i = 8 ∨ i = 9 := by omega
        clear hi2
        rcases hi3 with rfl | rfl | rfl | rfl | rfl | rfl | rfl | rfl | rfl | rfl
        · exact RhoOp.pure rfl (fun r L b w2 hl hR hW => by
            have h0 : b.eval (.tmp 0) = .slice (some ⟨g1, o1, none⟩) M c := (hR.old (by decide) (by kernel_rfl)).trans rfl
            simp only [Act.eval, Array.getD_eq_getD_getElem?] at h0
            show (execOp b.eval _).run _ _ = .ok (.value (.slice (some ⟨g1, o1, none⟩) M c)) _
            unfold execOp
            simp [go_sem, h0]) (fun _ _ _ _ h => h)
        · exact RhoOp.pure rfl (fun r L b w2 hl hR hW => by
            have h5 : b.eval (.tmp 5) = .int .i64 (i : Int) := (hR.old (by decide) (by kernel_rfl)).trans rfl
            simp only [Act.eval, Array.getD_eq_getD_getElem?] at h5
            show (execOp b.eval _).run _ _ = .ok (.value (.int .i64 (i : Int))) _
            unfold execOp
            simp [go_sem, h5]) (fun _ _ _ _ h => h)
        · exact RhoOp.pure rfl (fun r L b w2 hl hR hW => by
            have h18 : b.eval (.tmp 18) = .slice (some ⟨g1, o1, none⟩) M c := hR.of (j := 0) (by decide) (by kernel_rfl)
            have h19 : b.eval (.tmp 19) = .int .i64 (i : Int) := hR.of (j := 1) (by decide) (by kernel_rfl)
            simp only [Act.eval, Array.getD_eq_getD_getElem?] at h18 h19
            show (execOp b.eval _).run _ _ = .ok (.value (.pointer (some ⟨g1, o1 + i * 9, none⟩))) _
            unfold execOp
            simp [go_sem, h18, h19, hi0i, hi2i, hwii]) (fun _ _ _ _ h => h)
        · exact RhoOp.pure rfl (fun r L b w2 hl hR hW => by
            have hlo := run_loadAt_mid (P := Try.prog) w2 g1 (o1 + i * 9) 79 (mvC i x (toS x) vr vw) _ (range_below HR1.out hW) Try.underlying79 rfl sz_Move
            have h20 : b.eval (.tmp 20) = .pointer (some ⟨g1, o1 + i * 9, none⟩) := hR.of (j := 2) (by decide) (by kernel_rfl)
            simp only [Act.eval, Array.getD_eq_getD_getElem?] at h20
            show (execOp b.eval _).run _ _ = .ok (.value (.agg (mvC i x (toS x) vr vw).toArray)) _
            unfold execOp
            simp [Act.eval, h20, Sem.run_bind, hlo]) (fun _ _ _ _ h => h)
        · exact RhoOp.pure rfl (fun r L b w2 hl hR hW => by
            have h1 : b.eval (.tmp 1) = .slice (some ⟨g2, o2, none⟩) M c' := (hR.old (by decide) (by kernel_rfl)).trans rfl
            simp only [Act.eval, Array.getD_eq_getD_getElem?] at h1
            show (execOp b.eval _).run _ _ = .ok (.value (.slice (some ⟨g2, o2, none⟩) M c')) _
            unfold execOp
            simp [go_sem, h1]) (fun _ _ _ _ h => h)
        · exact RhoOp.pure rfl (fun r L b w2 hl hR hW => by
            have h5 : b.eval (.tmp 5) = .int .i64 (i : Int) := (hR.old (by decide) (by kernel_rfl)).trans rfl
            simp only [Act.eval, Array.getD_eq_getD_getElem?] at h5
            show (execOp b.eval _).run _ _ = .ok (.value (.int .i64 (i : Int))) _
            unfold execOp
            simp [go_sem, h5]) (fun _ _ _ _ h => h)
        · exact RhoOp.pure rfl (fun r L b w2 hl hR hW => by
            have h22 : b.eval (.tmp 22) = .slice (some ⟨g2, o2, none⟩) M c' := hR.of (j := 4) (by decide) (by kernel_rfl)
            have h23 : b.eval (.tmp 23) = .int .i64 (i : Int) := hR.of (j := 5) (by decide) (by kernel_rfl)
            simp only [Act.eval, Array.getD_eq_getD_getElem?] at h22 h23
            show (execOp b.eval _).run _ _ = .ok (.value (.pointer (some ⟨g2, o2 + i * 9, none⟩))) _
            unfold execOp
            simp [go_sem, h22, h23, hi0i, hi2i, hwii]) (fun _ _ _ _ h => h)
        · exact RhoOp.pure rfl (fun r L b w2 hl hR hW => by
            have hlo := run_loadAt_mid (P := Try.prog) w2 g2 (o2 + i * 9) 79 (mvC i x (toS x) vr' vw') _ (range_below HR2.out hW) Try.underlying79 rfl sz_Move
            have h24 : b.eval (.tmp 24) = .pointer (some ⟨g2, o2 + i * 9, none⟩) := hR.of (j := 6) (by decide) (by kernel_rfl)
            simp only [Act.eval, Array.getD_eq_getD_getElem?] at h24
            show (execOp b.eval _).run _ _ = .ok (.value (.agg (mvC i x (toS x) vr' vw').toArray)) _
            unfold execOp
            simp [Act.eval, h24, Sem.run_bind, hlo]) (fun _ _ _ _ h => h)
        · exact RhoOp.call (f := 44) rfl (fun r L b w2 hs hl hR hW => by
            have h21 : b.eval (.tmp 21) = .agg (mvC i x (toS x) vr vw).toArray := hR.of (j := 3) (by decide) (by kernel_rfl)
            have h25 : b.eval (.tmp 25) = .agg (mvC i x (toS x) vr' vw').toArray := hR.of (j := 7) (by decide) (by kernel_rfl)
            simp only [Act.eval, Array.getD_eq_getD_getElem?] at h21 h25
            refine ⟨#[.agg (mvC i x (toS x) vr vw).toArray, .agg (mvC i x (toS x) vr' vw').toArray], ?_, ?_⟩
            · unfold execOp
              simp [go_sem, h21, h25]
            · refine (moveFn (P1.out.up (Keep.below hW)) (P2.out.up (Keep.below hW)) (P3.out.up (Keep.below hW)) (P4.out.up (Keep.below hW)) hsx).mono fun e w4 h => ?_
              exact ⟨(), fun _ _ => rfl, h.1, hW.trans (h.2.mono hW.size)⟩)
        · exact RhoOp.pure rfl (fun r L b w2 hl hR hW => by
            have h26 : b.eval (.tmp 26) = .bool true := hR.of (j := 8) (by decide) (by kernel_rfl)
            simp only [Act.eval, Array.getD_eq_getD_getElem?] at h26
            show (execOp b.eval _).run _ _ = .ok (.value (.bool true)) _
            unfold execOp
            simp [go_sem, h26]) (fun _ _ _ _ h => h)
      · refine puts_as (ps := [(0, 18, .slice (some ⟨g1, o1, none⟩) M c), (1, 19, .int .i64 (i : Int)), (2, 20, .pointer (some ⟨g1, o1 + i * 9, none⟩)), (3, 21, .agg (mvC i x (toS x) vr vw).toArray), (4, 22, .slice (some ⟨g2, o2, none⟩) M c'), (5, 23, .int .i64 (i : Int)), (6, 24, .pointer (some ⟨g2, o2 + i * 9, none⟩)), (7, 25, .agg (mvC i x (toS x) vr' vw').toArray), (8, 26, .bool true), (9, 6, .bool true)]) rfl ?_
        simp only [puts, Act.put, List.setIfInBounds_toArray, List.set_cons_zero, List.set_cons_succ]
        have HB9 : Hid (Below w.heap.size w w9) := HB.out.trans (hW9.mono HB.out.size)
        clear hW9 HR1 HR2 P1 P2 P3 P4
        go_wp2
        go_roundw
        case rel => exact ⟨i + 1, by simp, by omega, HB9.out⟩
        case measure => (simp [intOf]) <;> omega
    · have hin2 : ¬ (i : Int) < (M : Int) := by omega
      go_wp2
      go_ret
      exact ⟨rfl, HB.out⟩
end Go.Proofs.Ytcedenoicmpjmaa
end
section
/- The walk of the reference's Look (printed by mkrlk.py). -/
namespace Go.Proofs.Ytcedenoicmpjmaa
open Go.RowKit
set_option linter.unusedVariables false
set_option linter.unusedSimpArgs false

/-- The reference reads a state's number as the program does. -/
theorem ref_none {N : PNet} {s : Bs} (h : nums 1099511627776 1 s = none) : nodeOf N s = none := by
  unfold nodeOf
  have : nums 20000 1 s = none := by
    rw [nums] at h ⊢
    cases hd : dec s with
    | ok n k =>
      rw [hd] at h
      simp only at h ⊢
      split at h
      · rw [if_pos (by omega)]
      · rw [nums] at h; cases h
    | _ => rfl
  rw [this]
theorem ref_some {N : PNet} {s : Bs} {ns : List Nat} {l : Bs} (hN : N.length ≤ 20000) (h : nums 1099511627776 1 s = some (ns, l)) : ∃ k, ns = [k] ∧ k ≤ 1099511627776 ∧ nodeOf N s = if l = [] then N[k]? else none := by
  rw [nums] at h
  cases hd : dec s with
  | ok n k =>
    rw [hd] at h
    simp only at h
    split at h
    · cases h
    · rename_i hn
      rw [nums] at h
      simp only [Option.some.injEq, Prod.mk.injEq] at h
      obtain ⟨rfl, rfl⟩ := h
      refine ⟨n, rfl, by omega, ?_⟩
      unfold nodeOf
      rw [nums, hd]
      simp only
      by_cases hl : s.drop k = []
      · rw [if_pos hl, hl]
        by_cases h2 : 20000 < n
        · rw [if_pos h2, List.getElem?_eq_none (by omega)]
        · rw [if_neg h2, nums]
      · rw [if_neg hl]
        obtain ⟨a, r, hr⟩ := List.exists_cons_of_ne_nil hl
        rw [hr]
        by_cases h2 : 20000 < n
        · rw [if_pos h2]
        · rw [if_neg h2, nums]
  | _ => rw [hd] at h; cases h
set_option maxHeartbeats 4000000 in
set_option maxRecDepth 100000 in
theorem refLookFn {P : Nat → Prop} {w : World} {n : PNet} {v : Value} {s : ByteArray} (h : NetV P w v n) (hs : s.size ≤ 1048576) (hN : n.length ≤ 20000) : Calls Try.prog 15 #[.agg #[v], .string s] w (LookPost n s.data.toList w) := by
  have h := h.mono (Q := fun k => k < w.heap.size) (fun k _ hk => hk)
  obtain ⟨f, hr, hg⟩ := h
  obtain ⟨a0, k0, rfl, hk0, _, _⟩ := hr.form
  obtain ⟨M, hM⟩ : ∃ M, n.length = M := ⟨_, rfl⟩
  have HM := Lib.hid hM
  have HNN := Lib.hid hN
  rw [hM] at hk0 hN ⊢
  obtain ⟨w1, hw1⟩ : ∃ W, W = (w.alloc (.cells #[.slice a0 M k0] 24)).alloc (.cells #[.int .u64 0, .bool false, .bool false, .bool false] 40) := ⟨_, rfl⟩
  have hb1 : Below w.heap.size w w1 := by rw [hw1]; exact ((Below.refl _ _).alloc (Nat.le_refl _) _).alloc (by simp) _
  have h2 : Holds w1 w.heap.size 24 [.slice a0 M k0] := by rw [hw1]; exact (Holds.new w 24 #[.slice a0 M k0]).alloc _
  have h4 : Holds w1 (w.heap.size + 1) 40 [.int .u64 0, .bool false, .bool false, .bool false] := by
    have h := Holds.new (w.alloc (.cells #[.slice a0 M k0] 24)) 40 #[.int .u64 0, .bool false, .bool false, .bool false]
    simp only [World.size_alloc] at h
    rw [hw1]; exact h
  have HB1 := Lib.hid hb1
  have H2 := Lib.hid h2
  have H4 := Lib.hid h4
  have HR := Lib.hid (hr.up (Keep.below hb1))
  have HG := Lib.hid (LsF.up (fun _ _ => oneNode.up (Keep.below hb1)) _ hg)
  have HC := Lib.hid (refNumbers (w := w1) (m := 1) hs (by omega))
  clear hr hg hb1 h2 h4 hM
  go_enter Try.func15, Try.ntmps15
  go_wp2_with (fail)
  rw [← hw1]
  clear hw1
  refine HC.out.mono ?_
  rintro e w2 ⟨hb2, hpost⟩
  have HB2 : Hid (Below w.heap.size w w2) := HB1.out.trans (hb2.mono HB1.out.size)
  have H22 := Lib.hid (H2.out.belowAll hb2)
  have H42 := Lib.hid (H4.out.belowAll hb2)
  have HR2 := Lib.hid (HR.out.up (Keep.below hb2))
  have HG2 := Lib.hid (LsF.up (fun _ _ => oneNode.up (Keep.below hb2)) _ HG.out)
  have c2 := H22.out.cell 0
  simp only [List.getElem?_cons_zero] at c2
  clear hb2 H2 H4 HR HG HC
  cases hnu : nums 1099511627776 1 s.data.toList with
  | none =>
    rw [hnu] at hpost
    have HNO := Lib.hid (ref_none (N := n) hnu)
    dsimp only at hpost
    subst hpost
    clear hnu
    go_wp2_with (fail)
    go_quiet (fail)
    go_wp2_with (refine wpList_storeB rfl 40 _ _ rfl (w.heap.size + 1) 0 [.int .u64 0, .bool false, .bool false, .bool false] rfl rfl H42.out (Nat.le_of_ble_eq_true rfl) sz_Sight rfl ?_)
    refine Named.mk (fun WZ hWZ => ?_)
    have hfz : Fr (fun q => q = w.heap.size + 1) w2 WZ := by rw [hWZ]; exact ((Fr.refl (fun q => q = w.heap.size + 1) w2).drewN _).trans (Fr.setRX _ _ 0 _) (fun _ _ h => h)
    have HBZ : Hid (Below w.heap.size w WZ) := HB2.out.trans (hfz.to_below HB2.out.size fun q hq e => by omega)
    have HDZ : Hid (Holds WZ (w.heap.size + 1) 40 [.int .u64 0, .bool false, .bool false, .bool false]) := Holds.stored (W := w2.drewN _) H42.out hWZ (Nat.le_of_ble_eq_true rfl)
    clear hWZ hfz
    go_wp2
    refine bodyPost_ret (outBox Try.results15 HDZ.out rfl _ Try.underlying40 rfl sz_Sight) rfl ?_
    refine ⟨HBZ.out, ?_⟩
    rw [HNO.out]
    rfl
  | some p =>
    obtain ⟨ns, l⟩ := p
    rw [hnu] at hpost
    obtain ⟨v2, rfl, hown⟩ := hpost
    obtain ⟨k, rfl, hkb, hno⟩ := ref_some (N := n) HNN.out hnu
    have hrow := RowL.of_owns (P := fun _ => True) hown fun _ _ => trivial
    obtain ⟨gk, ok, ck, rfl⟩ := hrow.some (by simp)
    have ck0 : w2.cell? ⟨gk, ok, none⟩ = some (.int .i64 (k : Int)) := by
      obtain ⟨g', o', c', x, h1, h2, h3⟩ := hrow.at1 (i := 0) (by simp)
      injection h1 with h1 _ _
      injection h1 with h1
      injection h1 with h1 h1'
      subst h1 h1'
      injection h2 with h2
      subst h2
      exact h3
    clear hown hnu
    by_cases hl : l = []
    · rw [if_pos hl] at hno
      subst hl
      by_cases hkM : k < M
      · have hk2 : (k : Int) < (M : Int) := by omega
        have hk0i : (0 : Int) ≤ (k : Int) := by omega
        have hwk : IntKind.i64.wrap (k : Int) = (k : Int) := by rw [IntKind.wrap_i64]; omega
        have hd1 : decide (M ≤ k) = false := decide_eq_false (by omega)
        have hil : k < n.length := by rw [HM.out]; exact hkM
        obtain ⟨gb, ob, cb, c, he1, hG1, hr1⟩ := HR2.out.atN oneNode HG2.out hil
        injection he1 with he1 hmid he1'
        subst he1 he1'
        clear hmid
        obtain ⟨x, hxx⟩ : ∃ x, n[k] = x := ⟨_, rfl⟩
        rw [hxx] at hG1
        rw [List.getElem?_eq_getElem hil, hxx] at hno
        obtain ⟨va, rfl, fx, rx, gx⟩ := hG1
        obtain ⟨ax, kx, rfl, _, _, _⟩ := rx.form
        have HNO := Lib.hid hno
        have HR1 := Lib.hid hr1
        have HRK := Lib.hid hrow
        clear hxx rx gx hno hr1 hrow
        go_wp2_with (fail)
        go_quiet (fail)
        go_wp2_with (fail)
        generalize hw3 : World.drewN w2 _ = w3
        have hb3 : Below w2.heap.size w2 w3 := by rw [← hw3]; exact below_drewN (Below.refl _ _) _
        clear hw3
        have HB3 := Lib.hid hb3
        have H23 := Lib.hid (H22.out.belowAll hb3)
        have HK3 := Lib.hid ((HRK.out.up (Keep.below hb3)))
        have HR3 := Lib.hid (range_below HR1.out hb3)
        have H43 := Lib.hid (H42.out.belowAll hb3)
        have ckk : ∀ w4, Below w3.heap.size w3 w4 → w4.cell? ⟨gk, ok, none⟩ = some (.int .i64 (k : Int)) := fun w4 hb4 => by
          obtain ⟨g', o', c', x, h1, h2, h3⟩ := (HK3.out.up (Keep.below hb4)).at1 (i := 0) (by simp)
          injection h1 with h1 _ _
          injection h1 with h1
          injection h1 with h1 h1'
          subst h1 h1'
          injection h2 with h2
          subst h2
          exact h3
        have HCK := Lib.hid ckk
        clear hb3 c2 ck0 ckk
        refine wp_region_rho (fun (r : Nat) j => ([(.pointer (some ⟨w.heap.size, 0, none⟩)), (.slice (some ⟨gb, ob, none⟩) M k0), (.slice (some ⟨gk, ok, none⟩) 1 ck), (.pointer (some ⟨gk, ok, none⟩)), (.int .i64 (k : Int)), (.pointer (some ⟨gb, ob + k * 5, none⟩)), (.agg ([.slice ax x.arcs.length kx, .int .u64 (x.props : Int), .bool x.fin, .bool x.prog, .bool x.acc]).toArray), (.pointer (some ⟨r, 0, none⟩)), (undef)] : List Value).getD j undef) (fun r L w2 => Below w3.heap.size w3 w2 ∧ (L.getD 7 false = true → w3.heap.size ≤ r ∧ Holds w2 r 53 (if L.getD 8 false then ([.slice ax x.arcs.length kx, .int .u64 (x.props : Int), .bool x.fin, .bool x.prog, .bool x.acc]) else [.slice none 0 0, .int .u64 0, .bool false, .bool false, .bool false])) ∧ (L.getD 8 false = true → L.getD 7 false = true)) [(0, 25), (1, 26), (2, 27), (3, 28), (4, 29), (5, 30), (6, 31), (7, 7)] 41 rfl (by kernel_rfl) (by kernel_rfl) (by kernel_rfl) 0 ⟨(Below.refl _ _).drew, (fun h => by simp at h), (fun h => by simp at h)⟩ (fun i hi => ?_) (fun r w9 hW9 => ?_)
        · have hi2 : i < 9 := hi
          clear hi
          have hi3 : i = 0 ∨ i = 1 ∨ i = 2 ∨ i = 3 ∨ i = 4 ∨ i = 5 ∨ i = 6 ∨ i = 7 ∨ i = 8 := by omega
          clear hi2
          rcases hi3 with rfl | rfl | rfl | rfl | rfl | rfl | rfl | rfl | rfl
          · exact RhoOp.pure rfl (fun r L b w2 hl hR hW => by
              have h2 : b.eval (.tmp 2) = .pointer (some ⟨w.heap.size, 0, none⟩) := (hR.old (by decide) (by kernel_rfl)).trans rfl
              simp only [Act.eval, Array.getD_eq_getD_getElem?] at h2
              show (execOp b.eval _).run _ _ = .ok (.value (.pointer (some ⟨w.heap.size, 0, none⟩))) _
              unfold execOp
              simp [go_sem, h2]) (fun r L w2 hs h => by
              simp only [gd_ne (L := L) (i := 0) (j := 7) (by decide), gd_ne (L := L) (i := 0) (j := 8) (by decide)]
              exact h)
          · exact RhoOp.pure rfl (fun r L b w2 hl hR hW => by
              have e : w2.cell? ⟨w.heap.size, 0, none⟩ = some (.slice (some ⟨gb, ob, none⟩) M k0) := (H23.out.belowAll hW.1).cell 0
              have h25 : b.eval (.tmp 25) = .pointer (some ⟨w.heap.size, 0, none⟩) := hR.of (j := 0) (by decide) (by kernel_rfl)
              simp only [Act.eval, Array.getD_eq_getD_getElem?] at h25
              show (execOp b.eval _).run _ _ = .ok (.value (.slice (some ⟨gb, ob, none⟩) M k0)) _
              unfold execOp
              simp [go_sem, h25, e]) (fun r L w2 hs h => by
              simp only [gd_ne (L := L) (i := 1) (j := 7) (by decide), gd_ne (L := L) (i := 1) (j := 8) (by decide)]
              exact h)
          · exact RhoOp.pure rfl (fun r L b w2 hl hR hW => by
              have h5 : b.eval (.tmp 5) = .slice (some ⟨gk, ok, none⟩) 1 ck := (hR.old (by decide) (by kernel_rfl)).trans rfl
              simp only [Act.eval, Array.getD_eq_getD_getElem?] at h5
              show (execOp b.eval _).run _ _ = .ok (.value (.slice (some ⟨gk, ok, none⟩) 1 ck)) _
              unfold execOp
              simp [go_sem, h5]) (fun r L w2 hs h => by
              simp only [gd_ne (L := L) (i := 2) (j := 7) (by decide), gd_ne (L := L) (i := 2) (j := 8) (by decide)]
              exact h)
          · exact RhoOp.pure rfl (fun r L b w2 hl hR hW => by
              have h27 : b.eval (.tmp 27) = .slice (some ⟨gk, ok, none⟩) 1 ck := hR.of (j := 2) (by decide) (by kernel_rfl)
              simp only [Act.eval, Array.getD_eq_getD_getElem?] at h27
              show (execOp b.eval _).run _ _ = .ok (.value (.pointer (some ⟨gk, ok, none⟩))) _
              unfold execOp
              simp [go_sem, h27]) (fun r L w2 hs h => by
              simp only [gd_ne (L := L) (i := 3) (j := 7) (by decide), gd_ne (L := L) (i := 3) (j := 8) (by decide)]
              exact h)
          · exact RhoOp.pure rfl (fun r L b w2 hl hR hW => by
              have e := HCK.out w2 hW.1
              have h28 : b.eval (.tmp 28) = .pointer (some ⟨gk, ok, none⟩) := hR.of (j := 3) (by decide) (by kernel_rfl)
              simp only [Act.eval, Array.getD_eq_getD_getElem?] at h28
              show (execOp b.eval _).run _ _ = .ok (.value (.int .i64 (k : Int))) _
              unfold execOp
              simp [go_sem, h28, e]) (fun r L w2 hs h => by
              simp only [gd_ne (L := L) (i := 4) (j := 7) (by decide), gd_ne (L := L) (i := 4) (j := 8) (by decide)]
              exact h)
          · exact RhoOp.pure rfl (fun r L b w2 hl hR hW => by
              have h26 : b.eval (.tmp 26) = .slice (some ⟨gb, ob, none⟩) M k0 := hR.of (j := 1) (by decide) (by kernel_rfl)
              have h29 : b.eval (.tmp 29) = .int .i64 (k : Int) := hR.of (j := 4) (by decide) (by kernel_rfl)
              simp only [Act.eval, Array.getD_eq_getD_getElem?] at h26 h29
              show (execOp b.eval _).run _ _ = .ok (.value (.pointer (some ⟨gb, ob + k * 5, none⟩))) _
              unfold execOp
              simp [go_sem, h26, h29, hk0i, hk2, hwk]) (fun r L w2 hs h => by
              simp only [gd_ne (L := L) (i := 5) (j := 7) (by decide), gd_ne (L := L) (i := 5) (j := 8) (by decide)]
              exact h)
          · exact RhoOp.pure rfl (fun r L b w2 hl hR hW => by
              have hlo := run_loadAt_mid (P := Try.prog) w2 gb (ob + k * 5) 53 ([.slice ax x.arcs.length kx, .int .u64 (x.props : Int), .bool x.fin, .bool x.prog, .bool x.acc]) _ (range_below HR3.out hW.1) Try.underlying53 rfl sz_Node
              have h30 : b.eval (.tmp 30) = .pointer (some ⟨gb, ob + k * 5, none⟩) := hR.of (j := 5) (by decide) (by kernel_rfl)
              simp only [Act.eval, Array.getD_eq_getD_getElem?] at h30
              show (execOp b.eval _).run _ _ = .ok (.value (.agg ([.slice ax x.arcs.length kx, .int .u64 (x.props : Int), .bool x.fin, .bool x.prog, .bool x.acc]).toArray)) _
              unfold execOp
              simp [Act.eval, h30, Sem.run_bind, hlo]) (fun r L w2 hs h => by
              simp only [gd_ne (L := L) (i := 6) (j := 7) (by decide), gd_ne (L := L) (i := 6) (j := 8) (by decide)]
              exact h)
          · exact RhoOp.make rfl (fun r L b w2 hs hl hR hW => by
              refine ⟨w2.heap.size, w2.alloc (.cells #[.slice none 0 0, .int .u64 0, .bool false, .bool false, .bool false] 53), ?_, ?_, ?_⟩
              · exact fun j hj => match j, hj with | 7, hj => (by rw [hl] at hj; cases hj) | 0, _ => rfl | 1, _ => rfl | 2, _ => rfl | 3, _ => rfl | 4, _ => rfl | 5, _ => rfl | 6, _ => rfl | 8, _ => rfl | j + 9, _ => rfl
              · show (execOp b.eval _).run _ _ = .ok (.value (.pointer (some ⟨(w2.heap.size), 0, none⟩))) _
                unfold execOp
                simp [go_sem, ]
              · have hb : Below w2.heap.size w2 (w2.alloc (.cells #[.slice none 0 0, .int .u64 0, .bool false, .bool false, .bool false] 53)) := (Below.refl _ _).alloc (Nat.le_refl _) _
                have h10 : L.getD 8 false = false := by
                  cases hq : L.getD 8 false with
                  | false => rfl
                  | true => have := hW.2.2 hq; rw [hl] at this; cases this
                refine ⟨hW.1.trans (hb.mono hW.1.size), fun _ => ⟨hW.1.size, ?_⟩, fun q => ?_⟩
                · rw [gd_ne (by decide), h10]
                  exact Holds.new w2 53 #[.slice none 0 0, .int .u64 0, .bool false, .bool false, .bool false]
                · rw [gd_ne (by decide), h10] at q; cases q)
          · exact RhoOp.store rfl rfl (fun r L b w2 hs hl hR hW => by
              have h9 := hR.on (j := 7) (by kernel_rfl)
              obtain ⟨hge, hbx⟩ := hW.2.1 h9
              rw [hl] at hbx
              have hst := storeN (P := Try.prog) (ty := 53) (xs := [.slice ax x.arcs.length kx, .int .u64 (x.props : Int), .bool x.fin, .bool x.prog, .bool x.acc]) (i := 0) hbx (Nat.le_of_ble_eq_true rfl) sz_Node rfl
              have h7 : b.eval (.tmp 7) = .pointer (some ⟨r, 0, none⟩) := hR.of (j := 7) (by decide) (by kernel_rfl)
              have h31 : b.eval (.tmp 31) = .agg ([.slice ax x.arcs.length kx, .int .u64 (x.props : Int), .bool x.fin, .bool x.prog, .bool x.acc]).toArray := hR.of (j := 6) (by decide) (by kernel_rfl)
              simp only [Act.eval, Array.getD_eq_getD_getElem?] at h7 h31
              refine ⟨r, setR w2 r 0 ([.slice ax x.arcs.length kx, .int .u64 (x.props : Int), .bool x.fin, .bool x.prog, .bool x.acc]), fun _ _ => rfl, ?_, ?_⟩
              · show (execOp b.eval _).run _ _ = .ok .skip _
                unfold execOp
                simp [Act.eval, h7, h31, Sem.run_bind, hst]
              · have hfr := Fr.setRX r ([.slice ax x.arcs.length kx, .int .u64 (x.props : Int), .bool x.fin, .bool x.prog, .bool x.acc]) 0 w2
                refine ⟨hW.1.trans (hfr.to_below hW.1.size fun q hq e => by omega), fun _ => ⟨hge, ?_⟩, fun _ => ?_⟩
                · rw [gd_eq (by rw [hs]; decide), if_pos rfl]
                  have := hbx.stored (W' := setR w2 r 0 ([.slice ax x.arcs.length kx, .int .u64 (x.props : Int), .bool x.fin, .bool x.prog, .bool x.acc])) rfl (Nat.le_of_ble_eq_true rfl)
                  exact this
                · rw [gd_ne (by decide)]; exact h9)
        · refine puts_as (ps := [(0, 25, .pointer (some ⟨w.heap.size, 0, none⟩)), (1, 26, .slice (some ⟨gb, ob, none⟩) M k0), (2, 27, .slice (some ⟨gk, ok, none⟩) 1 ck), (3, 28, .pointer (some ⟨gk, ok, none⟩)), (4, 29, .int .i64 (k : Int)), (5, 30, .pointer (some ⟨gb, ob + k * 5, none⟩)), (6, 31, .agg ([.slice ax x.arcs.length kx, .int .u64 (x.props : Int), .bool x.fin, .bool x.prog, .bool x.acc]).toArray), (7, 7, .pointer (some ⟨r, 0, none⟩))]) rfl ?_
          simp only [puts, Act.put, List.setIfInBounds_toArray, List.set_cons_zero, List.set_cons_succ]
          obtain ⟨hb9, h9, -⟩ := hW9
          obtain ⟨hge, hbx⟩ := h9 rfl
          replace hbx : Holds w9 r 53 ([.slice ax x.arcs.length kx, .int .u64 (x.props : Int), .bool x.fin, .bool x.prog, .bool x.acc]) := hbx
          have f1 := hbx.cell 1
          have f2 := hbx.cell 2
          have f3 := hbx.cell 3
          have f4 := hbx.cell 4
          simp only [List.getElem?_cons_zero, List.getElem?_cons_succ] at f1 f2 f3 f4
          have H49 := Lib.hid (H43.out.belowAll hb9)
          have HB9 : Hid (Below w.heap.size w w9) := HB2.out.trans ((HB3.out.trans (hb9.mono HB3.out.size)).mono HB2.out.size)
          clear hb9 h9 hbx hge
          go_wp2_with (refine wpList_storeB rfl 40 _ _ rfl (w.heap.size + 1) 0 [.int .u64 (x.props : Int), .bool x.fin, .bool x.prog, .bool x.acc] rfl rfl H49.out (Nat.le_of_ble_eq_true rfl) sz_Sight rfl ?_)
          refine Named.mk (fun WZ hWZ => ?_)
          have hfz : Fr (fun q => q = w.heap.size + 1) w9 WZ := by rw [hWZ]; exact Fr.setRX _ _ 0 _
          have HBZ : Hid (Below w.heap.size w WZ) := HB9.out.trans (hfz.to_below HB9.out.size fun q hq e => by omega)
          have HDZ : Hid (Holds WZ (w.heap.size + 1) 40 [.int .u64 (x.props : Int), .bool x.fin, .bool x.prog, .bool x.acc]) := H49.out.stored hWZ (Nat.le_of_ble_eq_true rfl)
          clear hWZ hfz
          go_wp2
          refine bodyPost_ret (outBox Try.results15 HDZ.out rfl _ Try.underlying40 rfl sz_Sight) rfl ?_
          refine ⟨HBZ.out, ?_⟩
          rw [HNO.out]
          rfl
      · have hd1 : decide (M ≤ k) = true := decide_eq_true (by omega)
        rw [List.getElem?_eq_none (by rw [HM.out]; omega)] at hno
        have HNO := Lib.hid hno
        clear hno hrow
        go_wp2_with (fail)
        go_quiet (fail)
        go_wp2_with (refine wpList_storeB rfl 40 _ _ rfl (w.heap.size + 1) 0 [.int .u64 0, .bool false, .bool false, .bool false] rfl rfl H42.out (Nat.le_of_ble_eq_true rfl) sz_Sight rfl ?_)
        refine Named.mk (fun WZ hWZ => ?_)
        have hfz : Fr (fun q => q = w.heap.size + 1) w2 WZ := by rw [hWZ]; exact ((Fr.refl (fun q => q = w.heap.size + 1) w2).drewN _).trans (Fr.setRX _ _ 0 _) (fun _ _ h => h)
        have HBZ : Hid (Below w.heap.size w WZ) := HB2.out.trans (hfz.to_below HB2.out.size fun q hq e => by omega)
        have HDZ : Hid (Holds WZ (w.heap.size + 1) 40 [.int .u64 0, .bool false, .bool false, .bool false]) := Holds.stored (W := w2.drewN _) H42.out hWZ (Nat.le_of_ble_eq_true rfl)
        clear hWZ hfz
        go_wp2
        refine bodyPost_ret (outBox Try.results15 HDZ.out rfl _ Try.underlying40 rfl sz_Sight) rfl ?_
        refine ⟨HBZ.out, ?_⟩
        rw [HNO.out]
        rfl
    · rw [if_neg hl] at hno
      have hle : l.isEmpty = false := by cases l with
        | nil => exact absurd rfl hl
        | cons a r => rfl
      rw [hle]
      have HNO := Lib.hid hno
      clear hno hrow hl hle
      go_wp2_with (fail)
      go_quiet (fail)
      go_wp2_with (refine wpList_storeB rfl 40 _ _ rfl (w.heap.size + 1) 0 [.int .u64 0, .bool false, .bool false, .bool false] rfl rfl H42.out (Nat.le_of_ble_eq_true rfl) sz_Sight rfl ?_)
      refine Named.mk (fun WZ hWZ => ?_)
      have hfz : Fr (fun q => q = w.heap.size + 1) w2 WZ := by rw [hWZ]; exact ((Fr.refl (fun q => q = w.heap.size + 1) w2).drewN _).trans (Fr.setRX _ _ 0 _) (fun _ _ h => h)
      have HBZ : Hid (Below w.heap.size w WZ) := HB2.out.trans (hfz.to_below HB2.out.size fun q hq e => by omega)
      have HDZ : Hid (Holds WZ (w.heap.size + 1) 40 [.int .u64 0, .bool false, .bool false, .bool false]) := Holds.stored (W := w2.drewN _) H42.out hWZ (Nat.le_of_ble_eq_true rfl)
      clear hWZ hfz
      go_wp2
      refine bodyPost_ret (outBox Try.results15 HDZ.out rfl _ Try.underlying40 rfl sz_Sight) rfl ?_
      refine ⟨HBZ.out, ?_⟩
      rw [HNO.out]
      rfl
end Go.Proofs.Ytcedenoicmpjmaa
end
