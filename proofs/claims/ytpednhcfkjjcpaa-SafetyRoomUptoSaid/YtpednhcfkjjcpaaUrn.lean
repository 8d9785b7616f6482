/- The walk of safety.Run, where all moves are followed. (printed by mkurn.py out of urn.txt) -/
import Derived.Test.YtpednhcfkjjcpaaUrh
namespace Go.Proofs.Ytpednhcfkjjcpaa.G
open Go.RowKit Go.Maps
set_option linter.unusedVariables false
set_option linter.unusedSimpArgs false

def optC (o : POpt) : List Value := [.int .i64 o.depth, .int .i64 o.states, .int .i64 o.bytes, .bool o.ends, .bool o.prog, .bool o.ample, .int .u64 (o.vis : Int)]
theorem sz_Search : (Try.prog.info? 27).map (·.size) = some 7 := by kernel_rfl
def RunPost (S : Sys) (o : POpt) (ch : List ByteArray → ByteArray → List PMove) (w : World) (e : Ending) (w' : World) : Prop := Below w.heap.size w w' ∧ ∃ r v, EndsIn S o ch r ∧ e = .returned (.tuple #[v, .int .i64 0]) ∧ FoundV (fun _ => True) w' v r
/-- What is told, handed back. -/
theorem run_end {S : Sys} {o : POpt} {ch : List ByteArray → ByteArray → List PMove} {w wt wz : World} {P : Nat → Prop} {b3 b4 N : Nat} {r : PFound} {vq : Value} (h3 : w.heap.size = b3) (hb : Below b3 w wt) (hz : Fr (fun q => q = b4) wt wz) (h4 : b3 ≤ b4) (hN : b4 ≤ N) (hP : ¬ P b4) (hv : MvsV (fun k => P k ∨ N < k) wt vq r.path) (he : EndsIn S o ch r) :
    RunPost S o ch w (.returned (.tuple #[.agg #[.int .i64 r.verdict, .int .i64 r.why, vq, .int .i64 (-1), .int .i64 (r.states : Int), .int .i64 (r.moves : Int), .int .i64 (r.deep : Int)], .int .i64 0])) wz := by
  subst h3
  refine ⟨hb.trans (hz.to_below hb.size fun k hk e => by have e : k = b4 := e; omega), r, _, he, rfl, vq, rfl, (hv.up fun k hk hs => hz.block k hs fun e => ?_).mono fun _ _ _ => trivial⟩
  have e : k = b4 := e
  rcases hk with hk | hk
  · exact hP (by rw [← e]; exact hk)
  · omega
theorem map_n_bump {f : Frm} {r : List Frm} {k : Nat} : ((({ f with k := k } : Frm) :: r).map (·.n)) = ((f :: r).map (·.n)) := rfl
set_option maxHeartbeats 16000000 in
set_option maxRecDepth 100000 in
theorem runFn {I : Ifc} {S : Sys} {w : World} {o : POpt} {M : Nat} (hS : SysOk I S w) (hta : ∀ w', (Instr.typeAssert (.iface I.tid I.dyn) 36 53 true).run Try.prog w' = .ok (.tuple #[.nilIface, .bool false]) w')
    (ho1 : 0 ≤ o.depth ∧ o.depth ≤ 9223372036854775807) (ho2 : 1 ≤ o.states ∧ o.states ≤ 9223372036854775807) (ho3 : 0 ≤ o.bytes ∧ o.bytes ≤ 9223372036854775807) (hoa : o.ample = false) (hM : FewS S M) (hM1 : M ≤ 999999) :
    Calls Try.prog 6 #[.iface I.tid I.dyn, .agg #[.int .i64 o.depth, .int .i64 o.states, .int .i64 o.bytes, .bool o.ends, .bool o.prog, .bool o.ample, .int .u64 (o.vis : Int)]] w (RunPost S o (allP S) w) := by
  obtain ⟨w1, hw1⟩ : ∃ W, W = (w.alloc (.cells #[.int .i64 o.depth, .int .i64 o.states, .int .i64 o.bytes, .bool o.ends, .bool o.prog, .bool o.ample, .int .u64 (o.vis : Int)] 27)).alloc (.cells #[.int .i64 0, .int .i64 0, .slice none 0 0, .int .i64 0, .int .i64 0, .int .i64 0, .int .i64 0] 30) := ⟨_, rfl⟩
  have hb1 : Below w.heap.size w w1 := by rw [hw1]; exact ((Below.refl _ _).alloc (Nat.le_refl _) _).alloc (by simp) _
  have h3 : Holds w1 w.heap.size 27 (optC o) := by rw [hw1]; exact (Holds.new w 27 #[.int .i64 o.depth, .int .i64 o.states, .int .i64 o.bytes, .bool o.ends, .bool o.prog, .bool o.ample, .int .u64 (o.vis : Int)]).alloc _
  have h4 : Holds w1 (w.heap.size + 1) 30 [.int .i64 0, .int .i64 0, .slice none 0 0, .int .i64 0, .int .i64 0, .int .i64 0, .int .i64 0] := by
    have h := Holds.new (w.alloc (.cells #[.int .i64 o.depth, .int .i64 o.states, .int .i64 o.bytes, .bool o.ends, .bool o.prog, .bool o.ample, .int .u64 (o.vis : Int)] 27)) 30 #[.int .i64 0, .int .i64 0, .slice none 0 0, .int .i64 0, .int .i64 0, .int .i64 0, .int .i64 0]
    simp only [World.size_alloc] at h
    rw [hw1]; exact h
  have sz1 : w1.heap.size = w.heap.size + 2 := by rw [hw1]; simp
  have HB1 := Lib.hid hb1
  have H3 := Lib.hid h3
  have H4 := Lib.hid h4
  have HSZ := Lib.hid sz1
  have HS := Lib.hid hS
  have HM := Lib.hid hM
  have HO1 := Lib.hid ho1
  have HO2 := Lib.hid ho2
  have HO3 := Lib.hid ho3
  have HOA := Lib.hid hoa
  have e0 := h3.cell 0
  have e1 := h3.cell 1
  have e2 := h3.cell 2
  have e5 := h3.cell 5
  simp only [optC, List.getElem?_cons_zero, List.getElem?_cons_succ] at e0 e1 e2 e5
  rw [hoa] at e5
  have k1 : ¬ o.depth < 0 := by omega
  have k2 : ¬ o.bytes < 0 := by omega
  have k3 : ¬ o.states < 1 := by omega
  clear hS hM ho1 ho2 ho3 hoa hb1 h3 h4 sz1
  go_enter Try.func6, Try.ntmps6
  go_wp2_with (fail)
  go_step3
  go_upto_region 1 with (fail)
  rw [← hw1]
  clear hw1
  obtain ⟨b3, hb3⟩ : ∃ b, w.heap.size = b := ⟨_, rfl⟩
  have HB3 := Lib.hid hb3
  rw [hb3] at e0 e1 e2 e5 H3 H4 HSZ ⊢
  clear hb3
  go_wp2_with (fail)
  have HRG3 := Lib.hid (H3.out.range (i := 0) (n := 7) (xs := optC o) rfl)
  refine wp_region_rho (fun (r : Nat × Nat × Nat × (Nat → Prop)) j => ([(.iface I.tid I.dyn), (.nilIface), (.agg #[.int .i64 o.depth, .int .i64 o.states, .int .i64 o.bytes, .bool o.ends, .bool o.prog, .bool o.ample, .int .u64 (o.vis : Int)]), (.pointer (some ⟨b3, 1, none⟩)), (.int .i64 o.states), (.pointer (some ⟨b3, 2, none⟩)), (.int .i64 o.bytes), (.pointer (some ⟨r.1, 0, none⟩)), (.map (some r.2.1)), (.agg #[.int .i64 0, .int .i64 0, .slice none 0 0, .int .i64 (-1), .int .i64 0, .int .i64 0, .int .i64 0]), (.agg #[.iface I.tid I.dyn, .nilIface, .int .i64 o.depth, .int .i64 o.states, .int .i64 o.bytes, .bool o.ends, .bool o.prog, .bool o.ample, .int .u64 (o.vis : Int), .pointer (some ⟨r.1, 0, none⟩), .map (some r.2.1), .slice none 0 0, .slice none 0 0, .int .i64 0, .int .i64 0, .int .i64 0, .slice none 0 0, .int .i64 (-1), .int .i64 0, .int .i64 0, .int .i64 0]), (.pointer (some ⟨r.2.2.1, 0, none⟩)), (.pointer (some ⟨r.2.2.1, 0, none⟩))] : List Value).getD j undef) (fun r L w2 => BegW I .nilIface o b3 w1 (L.getD 7 false) (L.getD 8 false) (L.getD 10 false) (L.getD 11 false) (L.getD 12 false) r w2) [(0, 52), (1, 53), (2, 54), (3, 55), (4, 56), (5, 57), (6, 58), (7, 59), (8, 60), (9, 61), (10, 62), (11, 63), (12, 9)] 236 rfl (by kernel_rfl) (by kernel_rfl) (by kernel_rfl) (0, 0, 0, fun _ => False) (BegW.first _) (fun i hi => ?_) (fun r w9 hW9 => ?_)
  · have hi2 : i < 13 := hi
    clear hi
    have hi3 : i = 0 ∨ i = 1 ∨ i = 2 ∨ i = 3 ∨ i = 4 ∨ i = 5 ∨ i = 6 ∨ i = 7 ∨ i = 8 ∨ i = 9 ∨ i = 10 ∨ i = 11 ∨ i = 12 := by omega
    clear hi2
    rcases hi3 with rfl | rfl | rfl | rfl | rfl | rfl | rfl | rfl | rfl | rfl | rfl | rfl | rfl
    · exact RhoOp.pure rfl (fun r L b w2 hl hR hW => by
        have h0 : b.eval (.tmp 0) = .iface I.tid I.dyn := (hR.old (by decide) (by kernel_rfl)).trans rfl
        simp only [Act.eval, Array.getD_eq_getD_getElem?] at h0
        show (execOp b.eval _).run _ _ = .ok (.value (.iface I.tid I.dyn)) _
        unfold execOp
        simp [go_sem, h0]) (fun r L w2 hs h => by
        simp only [gd_ne (L := L) (i := 0) (j := 7) (by decide), gd_ne (L := L) (i := 0) (j := 8) (by decide), gd_ne (L := L) (i := 0) (j := 10) (by decide), gd_ne (L := L) (i := 0) (j := 11) (by decide), gd_ne (L := L) (i := 0) (j := 12) (by decide)]
        exact h)
    · exact RhoOp.pure rfl (fun r L b w2 hl hR hW => by
        have h6 : b.eval (.tmp 6) = .nilIface := (hR.old (by decide) (by kernel_rfl)).trans rfl
        simp only [Act.eval, Array.getD_eq_getD_getElem?] at h6
        show (execOp b.eval _).run _ _ = .ok (.value (.nilIface)) _
        unfold execOp
        simp [go_sem, h6]) (fun r L w2 hs h => by
        simp only [gd_ne (L := L) (i := 1) (j := 7) (by decide), gd_ne (L := L) (i := 1) (j := 8) (by decide), gd_ne (L := L) (i := 1) (j := 10) (by decide), gd_ne (L := L) (i := 1) (j := 11) (by decide), gd_ne (L := L) (i := 1) (j := 12) (by decide)]
        exact h)
    · exact RhoOp.pure rfl (fun r L b w2 hl hR hW => by
        have hlo := run_loadAt_mid (P := Try.prog) w2 b3 0 27 [.int .i64 o.depth, .int .i64 o.states, .int .i64 o.bytes, .bool o.ends, .bool o.prog, .bool o.ample, .int .u64 (o.vis : Int)] _ (range_below HRG3.out hW.1) Try.underlying27 rfl sz_Search
        have h3 : b.eval (.tmp 3) = .pointer (some ⟨b3, 0, none⟩) := (hR.old (by decide) (by kernel_rfl)).trans rfl
        simp only [Act.eval, Array.getD_eq_getD_getElem?] at h3
        show (execOp b.eval _).run _ _ = .ok (.value (.agg #[.int .i64 o.depth, .int .i64 o.states, .int .i64 o.bytes, .bool o.ends, .bool o.prog, .bool o.ample, .int .u64 (o.vis : Int)])) _
        unfold execOp
        simp [Act.eval, h3, Sem.run_bind, hlo]) (fun r L w2 hs h => by
        simp only [gd_ne (L := L) (i := 2) (j := 7) (by decide), gd_ne (L := L) (i := 2) (j := 8) (by decide), gd_ne (L := L) (i := 2) (j := 10) (by decide), gd_ne (L := L) (i := 2) (j := 11) (by decide), gd_ne (L := L) (i := 2) (j := 12) (by decide)]
        exact h)
    · exact RhoOp.pure rfl (fun r L b w2 hl hR hW => by
        have h3 : b.eval (.tmp 3) = .pointer (some ⟨b3, 0, none⟩) := (hR.old (by decide) (by kernel_rfl)).trans rfl
        simp only [Act.eval, Array.getD_eq_getD_getElem?] at h3
        show (execOp b.eval _).run _ _ = .ok (.value (.pointer (some ⟨b3, 1, none⟩))) _
        unfold execOp
        simp [go_sem, h3]) (fun r L w2 hs h => by
        simp only [gd_ne (L := L) (i := 3) (j := 7) (by decide), gd_ne (L := L) (i := 3) (j := 8) (by decide), gd_ne (L := L) (i := 3) (j := 10) (by decide), gd_ne (L := L) (i := 3) (j := 11) (by decide), gd_ne (L := L) (i := 3) (j := 12) (by decide)]
        exact h)
    · exact RhoOp.pure rfl (fun r L b w2 hl hR hW => by
        have e := cell_up e1 hW.1
        have h55 : b.eval (.tmp 55) = .pointer (some ⟨b3, 1, none⟩) := hR.of (j := 3) (by decide) (by kernel_rfl)
        simp only [Act.eval, Array.getD_eq_getD_getElem?] at h55
        show (execOp b.eval _).run _ _ = .ok (.value (.int .i64 o.states)) _
        unfold execOp
        simp [go_sem, h55, e]) (fun r L w2 hs h => by
        simp only [gd_ne (L := L) (i := 4) (j := 7) (by decide), gd_ne (L := L) (i := 4) (j := 8) (by decide), gd_ne (L := L) (i := 4) (j := 10) (by decide), gd_ne (L := L) (i := 4) (j := 11) (by decide), gd_ne (L := L) (i := 4) (j := 12) (by decide)]
        exact h)
    · exact RhoOp.pure rfl (fun r L b w2 hl hR hW => by
        have h3 : b.eval (.tmp 3) = .pointer (some ⟨b3, 0, none⟩) := (hR.old (by decide) (by kernel_rfl)).trans rfl
        simp only [Act.eval, Array.getD_eq_getD_getElem?] at h3
        show (execOp b.eval _).run _ _ = .ok (.value (.pointer (some ⟨b3, 2, none⟩))) _
        unfold execOp
        simp [go_sem, h3]) (fun r L w2 hs h => by
        simp only [gd_ne (L := L) (i := 5) (j := 7) (by decide), gd_ne (L := L) (i := 5) (j := 8) (by decide), gd_ne (L := L) (i := 5) (j := 10) (by decide), gd_ne (L := L) (i := 5) (j := 11) (by decide), gd_ne (L := L) (i := 5) (j := 12) (by decide)]
        exact h)
    · exact RhoOp.pure rfl (fun r L b w2 hl hR hW => by
        have e := cell_up e2 hW.1
        have h57 : b.eval (.tmp 57) = .pointer (some ⟨b3, 2, none⟩) := hR.of (j := 5) (by decide) (by kernel_rfl)
        simp only [Act.eval, Array.getD_eq_getD_getElem?] at h57
        show (execOp b.eval _).run _ _ = .ok (.value (.int .i64 o.bytes)) _
        unfold execOp
        simp [go_sem, h57, e]) (fun r L w2 hs h => by
        simp only [gd_ne (L := L) (i := 6) (j := 7) (by decide), gd_ne (L := L) (i := 6) (j := 8) (by decide), gd_ne (L := L) (i := 6) (j := 10) (by decide), gd_ne (L := L) (i := 6) (j := 11) (by decide), gd_ne (L := L) (i := 6) (j := 12) (by decide)]
        exact h)
    · exact RhoOp.call (f := 15) rfl (fun r L b w2 hs hl hR hW => by
        have h56 : b.eval (.tmp 56) = .int .i64 o.states := hR.of (j := 4) (by decide) (by kernel_rfl)
        have h58 : b.eval (.tmp 58) = .int .i64 o.bytes := hR.of (j := 6) (by decide) (by kernel_rfl)
        simp only [Act.eval, Array.getD_eq_getD_getElem?] at h56 h58
        refine ⟨#[.int .i64 o.states, .int .i64 o.bytes], ?_, ?_⟩
        · unfold execOp
          simp [go_sem, h56, h58]
        · rw [hl] at hW
          have hbs : b3 ≤ w2.heap.size := by have := hW.1.size; have := HSZ.out; omega
          refine (St.new_at w2 b3 hbs o.states o.bytes HO2.out.2 HO3.out.2).mono fun e w4 h => ?_
          obtain ⟨Sb, F, he, hm, hb, hF⟩ := h
          rw [show max o.states 0 = o.states by have := HO2.out; omega, show max o.bytes 0 = o.bytes by have := HO3.out; omega] at hm
          have h10 := hW.n7.1
          refine ⟨(Sb, r.2.1, r.2.2.1, F), fun j hj => ?_, he, ?_⟩
          · exact (match j, hj with
              | 0, _ => rfl
              | 1, _ => rfl
              | 2, _ => rfl
              | 3, _ => rfl
              | 4, _ => rfl
              | 5, _ => rfl
              | 6, _ => rfl
              | 7, hj => (by rw [hl] at hj; cases hj)
              | 8, _ => rfl
              | 9, _ => rfl
              | 10, hj => (by rw [h10] at hj; cases hj)
              | 11, _ => rfl
              | 12, _ => rfl
              | j + 13, _ => rfl)
          · simp only [gd_eq (L := L) (i := 7) (by rw [hs]; decide), gd_ne (L := L) (i := 7) (j := 8) (by decide), gd_ne (L := L) (i := 7) (j := 10) (by decide), gd_ne (L := L) (i := 7) (j := 11) (by decide), gd_ne (L := L) (i := 7) (j := 12) (by decide)]
            exact hW.new hm hb hF)
    · exact RhoOp.make rfl (fun r L b w2 hs hl hR hW => by
        refine ⟨(r.1, w2.heap.size, r.2.2.1, r.2.2.2), w2.alloc (.map #[] 0), ?_, ?_, ?_⟩
        · exact fun j hj => by
            have h10 := (show BegW I .nilIface o b3 w1 (L.getD 7 false) false (L.getD 10 false) (L.getD 11 false) (L.getD 12 false) r w2 by rw [hl] at hW; exact hW).n8.1
            exact (match j, hj with
              | 0, _ => rfl
              | 1, _ => rfl
              | 2, _ => rfl
              | 3, _ => rfl
              | 4, _ => rfl
              | 5, _ => rfl
              | 6, _ => rfl
              | 7, _ => rfl
              | 8, hj => (by rw [hl] at hj; cases hj)
              | 9, _ => rfl
              | 10, hj => (by rw [h10] at hj; cases hj)
              | 11, _ => rfl
              | 12, _ => rfl
              | j + 13, _ => rfl)
        · show (execOp b.eval _).run _ _ = .ok (.value (.map (some ((r.1, w2.heap.size, r.2.2.1, r.2.2.2)).2.1))) _
          unfold execOp
          simp [go_sem, run_makeMap]
        · rw [hl] at hW
          simp only [gd_eq (L := L) (i := 8) (by rw [hs]; decide), gd_ne (L := L) (i := 8) (j := 7) (by decide), gd_ne (L := L) (i := 8) (j := 10) (by decide), gd_ne (L := L) (i := 8) (j := 11) (by decide), gd_ne (L := L) (i := 8) (j := 12) (by decide)]
          exact hW.map_)
    · exact RhoOp.pure rfl (fun r L b w2 hl hR hW => by
        show (execOp b.eval _).run _ _ = .ok (.value (.agg #[.int .i64 0, .int .i64 0, .slice none 0 0, .int .i64 (-1), .int .i64 0, .int .i64 0, .int .i64 0])) _
        unfold execOp
        simp [go_sem, ]) (fun r L w2 hs h => by
        simp only [gd_ne (L := L) (i := 9) (j := 7) (by decide), gd_ne (L := L) (i := 9) (j := 8) (by decide), gd_ne (L := L) (i := 9) (j := 10) (by decide), gd_ne (L := L) (i := 9) (j := 11) (by decide), gd_ne (L := L) (i := 9) (j := 12) (by decide)]
        exact h)
    · exact RhoOp.make rfl (fun r L b w2 hs hl hR hW => by
        have h52 : b.eval (.tmp 52) = .iface I.tid I.dyn := hR.of (j := 0) (by decide) (by kernel_rfl)
        have h53 : b.eval (.tmp 53) = .nilIface := hR.of (j := 1) (by decide) (by kernel_rfl)
        have h54 : b.eval (.tmp 54) = .agg #[.int .i64 o.depth, .int .i64 o.states, .int .i64 o.bytes, .bool o.ends, .bool o.prog, .bool o.ample, .int .u64 (o.vis : Int)] := hR.of (j := 2) (by decide) (by kernel_rfl)
        have h59 : b.eval (.tmp 59) = .pointer (some ⟨r.1, 0, none⟩) := hR.of (j := 7) (by decide) (by kernel_rfl)
        have h60 : b.eval (.tmp 60) = .map (some r.2.1) := hR.of (j := 8) (by decide) (by kernel_rfl)
        have h61 : b.eval (.tmp 61) = .agg #[.int .i64 0, .int .i64 0, .slice none 0 0, .int .i64 (-1), .int .i64 0, .int .i64 0, .int .i64 0] := hR.of (j := 9) (by decide) (by kernel_rfl)
        simp only [Act.eval, Array.getD_eq_getD_getElem?] at h52 h53 h54 h59 h60 h61
        refine ⟨r, w2, ?_, ?_, ?_⟩
        · exact fun _ _ => rfl
        · show (execOp b.eval _).run _ _ = .ok (.value (.agg #[.iface I.tid I.dyn, .nilIface, .int .i64 o.depth, .int .i64 o.states, .int .i64 o.bytes, .bool o.ends, .bool o.prog, .bool o.ample, .int .u64 (o.vis : Int), .pointer (some ⟨(r).1, 0, none⟩), .map (some (r).2.1), .slice none 0 0, .slice none 0 0, .int .i64 0, .int .i64 0, .int .i64 0, .slice none 0 0, .int .i64 (-1), .int .i64 0, .int .i64 0, .int .i64 0])) _
          unfold execOp
          simp [go_sem, h52, h53, h54, h59, h60, h61]
        · have z7 := hR.on (j := 7) (by kernel_rfl)
          have z8 := hR.on (j := 8) (by kernel_rfl)
          simp only [gd_eq (L := L) (i := 10) (by rw [hs]; decide), gd_ne (L := L) (i := 10) (j := 7) (by decide), gd_ne (L := L) (i := 10) (j := 8) (by decide), gd_ne (L := L) (i := 10) (j := 11) (by decide), gd_ne (L := L) (i := 10) (j := 12) (by decide)]
          exact hW.set10 z7 z8)
    · exact RhoOp.make rfl (fun r L b w2 hs hl hR hW => by
        have h62 : b.eval (.tmp 62) = .agg #[.iface I.tid I.dyn, .nilIface, .int .i64 o.depth, .int .i64 o.states, .int .i64 o.bytes, .bool o.ends, .bool o.prog, .bool o.ample, .int .u64 (o.vis : Int), .pointer (some ⟨r.1, 0, none⟩), .map (some r.2.1), .slice none 0 0, .slice none 0 0, .int .i64 0, .int .i64 0, .int .i64 0, .slice none 0 0, .int .i64 (-1), .int .i64 0, .int .i64 0, .int .i64 0] := hR.of (j := 10) (by decide) (by kernel_rfl)
        simp only [Act.eval, Array.getD_eq_getD_getElem?] at h62
        refine ⟨(r.1, r.2.1, w2.heap.size, r.2.2.2), w2.alloc (.cells #[.iface I.tid I.dyn, .nilIface, .int .i64 o.depth, .int .i64 o.states, .int .i64 o.bytes, .bool o.ends, .bool o.prog, .bool o.ample, .int .u64 (o.vis : Int), .pointer (some ⟨r.1, 0, none⟩), .map (some r.2.1), .slice none 0 0, .slice none 0 0, .int .i64 0, .int .i64 0, .int .i64 0, .slice none 0 0, .int .i64 (-1), .int .i64 0, .int .i64 0, .int .i64 0] 64), ?_, ?_, ?_⟩
        · exact fun j hj => by
            have h12 := (show BegW I .nilIface o b3 w1 (L.getD 7 false) (L.getD 8 false) (L.getD 10 false) false (L.getD 12 false) r w2 by rw [hl] at hW; exact hW).n11
            exact (match j, hj with
              | 0, _ => rfl
              | 1, _ => rfl
              | 2, _ => rfl
              | 3, _ => rfl
              | 4, _ => rfl
              | 5, _ => rfl
              | 6, _ => rfl
              | 7, _ => rfl
              | 8, _ => rfl
              | 9, _ => rfl
              | 10, _ => rfl
              | 11, hj => (by rw [hl] at hj; cases hj)
              | 12, hj => (by rw [h12] at hj; cases hj)
              | j + 13, _ => rfl)
        · show (execOp b.eval _).run _ _ = .ok (.value (.pointer (some ⟨((r.1, r.2.1, w2.heap.size, r.2.2.2)).2.2.1, 0, none⟩))) _
          unfold execOp
          simp [go_sem, h62]
        · have z10 := hR.on (j := 10) (by kernel_rfl)
          rw [hl] at hW
          simp only [gd_eq (L := L) (i := 11) (by rw [hs]; decide), gd_ne (L := L) (i := 11) (j := 7) (by decide), gd_ne (L := L) (i := 11) (j := 8) (by decide), gd_ne (L := L) (i := 11) (j := 10) (by decide), gd_ne (L := L) (i := 11) (j := 12) (by decide)]
          exact hW.box z10)
    · exact RhoOp.make rfl (fun r L b w2 hs hl hR hW => by
        have h63 : b.eval (.tmp 63) = .pointer (some ⟨r.2.2.1, 0, none⟩) := hR.of (j := 11) (by decide) (by kernel_rfl)
        simp only [Act.eval, Array.getD_eq_getD_getElem?] at h63
        refine ⟨r, w2, ?_, ?_, ?_⟩
        · exact fun _ _ => rfl
        · show (execOp b.eval _).run _ _ = .ok (.value (.pointer (some ⟨(r).2.2.1, 0, none⟩))) _
          unfold execOp
          simp [go_sem, h63]
        · have z11 := hR.on (j := 11) (by kernel_rfl)
          simp only [gd_eq (L := L) (i := 12) (by rw [hs]; decide), gd_ne (L := L) (i := 12) (j := 7) (by decide), gd_ne (L := L) (i := 12) (j := 8) (by decide), gd_ne (L := L) (i := 12) (j := 10) (by decide), gd_ne (L := L) (i := 12) (j := 11) (by decide)]
          exact hW.set12 z11)
  · refine puts_as (ps := [(0, 52, .iface I.tid I.dyn), (1, 53, .nilIface), (2, 54, .agg #[.int .i64 o.depth, .int .i64 o.states, .int .i64 o.bytes, .bool o.ends, .bool o.prog, .bool o.ample, .int .u64 (o.vis : Int)]), (3, 55, .pointer (some ⟨b3, 1, none⟩)), (4, 56, .int .i64 o.states), (5, 57, .pointer (some ⟨b3, 2, none⟩)), (6, 58, .int .i64 o.bytes), (7, 59, .pointer (some ⟨r.1, 0, none⟩)), (8, 60, .map (some r.2.1)), (9, 61, .agg #[.int .i64 0, .int .i64 0, .slice none 0 0, .int .i64 (-1), .int .i64 0, .int .i64 0, .int .i64 0]), (10, 62, .agg #[.iface I.tid I.dyn, .nilIface, .int .i64 o.depth, .int .i64 o.states, .int .i64 o.bytes, .bool o.ends, .bool o.prog, .bool o.ample, .int .u64 (o.vis : Int), .pointer (some ⟨r.1, 0, none⟩), .map (some r.2.1), .slice none 0 0, .slice none 0 0, .int .i64 0, .int .i64 0, .int .i64 0, .slice none 0 0, .int .i64 (-1), .int .i64 0, .int .i64 0, .int .i64 0]), (11, 63, .pointer (some ⟨r.2.2.1, 0, none⟩)), (12, 9, .pointer (some ⟨r.2.2.1, 0, none⟩))]) rfl ?_
    simp only [puts, Act.put, List.setIfInBounds_toArray, List.set_cons_zero, List.set_cons_succ]
    have hW9 : BegW I .nilIface o b3 w1 true true true true true r w9 := by simpa using hW9
    obtain ⟨Sb, mb, X, F⟩ := r
    obtain ⟨q1, q2, q3, q4, q5, q6, q7⟩ := hW9
    dsimp only at q2 q3 q4 q6 ⊢
    obtain ⟨q2, q2'⟩ := q2 rfl
    obtain ⟨q3, q3'⟩ := q3 rfl
    obtain ⟨_, q6, q6', q6''⟩ := q6 rfl
    have hsz := HSZ.out
    have h9 : SrchV I .nilIface o b3 X Sb mb F (fun _ => False) (fun k => k = b3 ∨ k = b3 + 1) [] (.slice none 0 0) (.slice none 0 0) w ⟨[], [], [], [], 0, 0, 0⟩ w9 := by
      have hz9 := q1.size
      refine SrchV.begun (w1 := w1) ((HB1.out.mono (by rw [HB3.out]; exact Nat.le_refl _)).trans (q1.mono (by omega))) (by rw [HB3.out]; exact Nat.le_refl _) q6 q2 q3 (fun k hk => by have := q2' k hk; omega) q6'' (q4 rfl rfl) (by omega) (by omega) fun k hk => ?_
      have hkl : k < w1.heap.size := by
        rcases hk with rfl | rfl
        · omega
        · omega
      exact ⟨by omega, fun hF => by have := q2' k hF; omega, by omega, by omega⟩
    have H9 := Lib.hid h9
    have H49 := Lib.hid (H4.out.belowAll q1)
    have H39 := Lib.hid (H3.out.belowAll q1)
    have HBW9 : Hid (Below w.heap.size w w9) := h9.below.mono (by rw [HB3.out]; exact Nat.le_refl _)
    have hb0 : w.heap.size ≤ b3 := by rw [HB3.out]; exact Nat.le_refl _
    clear q1 q2 q2' q3 q3' q4 q5 q6 q6' q6'' q7 h9 hsz HRG3 H3 H4 e0 e1 e2 e5 k1 k2 k3
    have mB := HS.out.mB
    have eB := HS.out.eB
    have HBG := Lib.hid (HS.out.beg w9 HBW9.out)
    go_wp2_with (fail)
    refine HBG.out.mono ?_
    rintro e w10 ⟨rfl, hb10⟩
    have HTEN := Lib.hid (H9.out.fresh hb10)
    have H410 := Lib.hid (H49.out.belowAll hb10)
    have H310 := Lib.hid (H39.out.belowAll hb10)
    have hbs := HS.out.small.beg
    have HBS := Lib.hid hbs
    clear hb10 HBG mB eB H9 H49 H39 HBW9
    by_cases hfull : o.bytes - totB [] < S.beg.size
    · have HPT : Hid (Calls Try.prog 16 #[.pointer (some ⟨X, 0, none⟩), .string S.beg] w10 fun e w' => e = .returned (.tuple #[.int .i64 0, .bool false, .bool false]) ∧ Keep (fun k => False ∨ (k = b3 ∨ k = b3 + 1)) w10 w' ∧ SrchV I .nilIface o b3 X Sb mb F (fun _ => False) (fun k => k = b3 ∨ k = b3 + 1) [] (.slice none 0 0) (.slice none 0 0) w ⟨[], [], [], [], 105, 0, 0⟩ w') := put_fullS HTEN.out (Nat.zero_le _) hbs (by simp) 105 (.inr ⟨rfl, by have := HO2.out; show ¬ o.states ≤ ((0 : Nat) : Int); omega, hfull⟩)
      have HST : Hid (startP S o (allP S) = .inr (ended ⟨[], [], [], [], 105, 0, 0⟩)) := by
        show _ = _
        unfold startP
        have e : putP o [] S.beg = .full 105 := by unfold putP; rw [if_neg (by simp), if_neg (by have := HO2.out; simp; omega), if_pos hfull]
        rw [e]
      clear hfull
      go_wp2_with (fail)
      refine HPT.out.mono ?_
      rintro e w11 ⟨rfl, hk11, h11⟩
      have H11 := Lib.hid h11
      have H411 := Lib.hid (H410.out.of_eq (hk11 _ (.inr (.inr rfl)) H410.out.lt))
      have HNP : Hid (¬ (fun _ : Nat => False) (b3 + 1)) := fun h => h
      clear hk11 h11 HPT
      go_wp2_with (fail)
      refine (endedFn H11.out).mono ?_
      rintro e wt ⟨hbt, hzt, hkt, vt, rfl, vq, rfl, hvq⟩
      obtain ⟨RR, hRR⟩ : ∃ r, ended ⟨[], [], [], [], 105, 0, 0⟩ = r := ⟨_, rfl⟩
      rw [hRR] at hvq ⊢
      have HEI : Hid (EndsIn S o (allP S) RR) := by show EndsIn S o (allP S) RR; rw [← hRR]; exact .inl HST.out
      have HBT := Lib.hid hbt
      have HVQ := Lib.hid hvq
      have H4T := Lib.hid (H411.out.of_eq (hkt _ (.inr (.inr rfl)) H411.out.lt))
      have HNB : Hid (b3 + 1 ≤ w11.heap.size) := Nat.le_of_lt H411.out.lt
      have hone : ([.int .i64 RR.verdict, .int .i64 RR.why, vq, .int .i64 (-1), .int .i64 (RR.states : Int), .int .i64 (RR.moves : Int), .int .i64 (RR.deep : Int)] : List Value).all (·.oneCell') = true := by
        have := hvq.one
        simp [this]
        simp [Value.oneCell']
      clear hbt hzt hkt hvq hRR 
      go_wp2_with (refine wpList_storeB rfl 30 _ _ rfl (b3 + 1) 0 [.int .i64 RR.verdict, .int .i64 RR.why, vq, .int .i64 (-1), .int .i64 (RR.states : Int), .int .i64 (RR.moves : Int), .int .i64 (RR.deep : Int)] rfl rfl H4T.out (Nat.le_of_ble_eq_true rfl) sz_Found hone ?_)
      refine Named.mk (fun wz hWz => ?_)
      have hz : Fr (fun q => q = b3 + 1) wt wz := by rw [hWz]; exact Fr.setRX _ _ 0 _
      have HZ := Lib.hid (H4T.out.stored hWz (Nat.le_of_ble_eq_true rfl))
      have HP := Lib.hid (run_end HB3.out HBT.out hz (Nat.le_succ _) HNB.out HNP.out HVQ.out HEI.out)
      clear hWz hz HBT HVQ H4T HNB HEI hone
      go_wp2
      rw [Exit.noGoto_ret]
      refine bodyPost_ret (outBox2 Try.results6 HZ.out rfl _ Try.underlying30 rfl sz_Found) rfl ?_
      exact HP.out
    · have hroom : ((S.beg.size : Nat) : Int) ≤ o.bytes - totB [] := by omega
      have HPT : Hid (Calls Try.prog 16 #[.pointer (some ⟨X, 0, none⟩), .string S.beg] w10 fun e w' => e = .returned (.tuple #[.int .i64 0, .bool true, .bool true]) ∧ Keep (fun k => False ∨ (k = b3 ∨ k = b3 + 1)) w10 w' ∧ ∃ F', SrchV I .nilIface o b3 X Sb mb F' (fun _ => False) (fun k => k = b3 ∨ k = b3 + 1) [] (.slice none 0 0) (.slice none 0 0) w ⟨[S.beg], [], [], [], 0, 0, 0⟩ w') := put_newS HTEN.out (Nat.zero_le _) hbs (by simp) (by have := HO2.out; show ((0 : Nat) : Int) < o.states; omega) hroom
      have hst0 : startP S o (allP S) = enterP S o (allP S) ⟨[], [], [], [], 0, 0, 0⟩ S.beg := by
        unfold startP
        have e : putP o [] S.beg = .new := by unfold putP; rw [if_neg (by simp), if_neg (by have := HO2.out; simp; omega), if_neg hfull]
        rw [e]
      have HST0 := Lib.hid hst0
      clear hfull hroom hst0
      go_wp2_with (fail)
      refine HPT.out.mono ?_
      rintro e w11 ⟨rfl, hk11, F1, h11⟩
      have H411 := Lib.hid (H410.out.of_eq (hk11 _ (.inr (.inr rfl)) H410.out.lt))
      have H311 := Lib.hid (H310.out.of_eq (hk11 _ (.inr (.inl rfl)) H310.out.lt))
      have HEN : Hid (Calls Try.prog 18 #[.pointer (some ⟨X, 0, none⟩), .int .i64 0, .string S.beg] w11 (EnterPost S I .nilIface o b3 X Sb mb F1 (fun _ => False) (fun k => k = b3 ∨ k = b3 + 1) [] (.slice none 0 0) w 0 S.beg ⟨[S.beg], [], [], [], 0, 0, 0⟩ w11)) := enterFn (n := 0) h11 hb0 HS.out hbs (by omega) HOA.out (Nat.zero_le _) (Nat.zero_le _) (Nat.zero_le _) (Nat.zero_le _)
      clear hk11 h11 HPT HTEN H410 H310
      go_wp2_with (fail)
      refine HEN.out.mono ?_
      rintro e w12 ⟨rfl, P1, vw1, hP1, hk12, hz12, h12⟩
      obtain ⟨l0, hl0⟩ : ∃ l, S.next S.beg = l := ⟨_, rfl⟩
      have hch : allP S (S.beg :: ([] : List Frm).map (·.s)) S.beg = l0 := hl0
      rw [hl0] at h12 ⊢
      have H12 : Hid (SrchV I .nilIface o b3 X Sb mb F1 P1 (fun k => k = b3 ∨ k = b3 + 1) [0] vw1 (.slice none 0 0) w ⟨[S.beg], [l0], [⟨0, S.beg, l0, 0⟩], [], 0, l0.length, 0⟩ w12) := by
        have h := SrchV.recl (cl' := [l0]) h12
        show SrchV _ _ _ _ _ _ _ _ _ _ _ _ _ _ _ _
        simpa using h
      have H412 := Lib.hid (H411.out.of_eq (hk12 _ (.inr (.inr rfl)) H411.out.lt))
      have H312 := Lib.hid (H311.out.of_eq (hk12 _ (.inr (.inl rfl)) H311.out.lt))
      obtain ⟨bad, hbad⟩ : ∃ b, (o.ends && (l0.isEmpty && !(S.look S.beg).fin)) = b := ⟨_, rfl⟩
      have HST1 : Hid (startP S o (allP S) = if bad = true then .inr (viol ⟨[S.beg], [l0], [⟨0, S.beg, l0, 0⟩], [], 0, l0.length, 0⟩ 101) else .inl ⟨[S.beg], [l0], [⟨0, S.beg, l0, 0⟩], [], 0, l0.length, 0⟩) := by
        show _ = _
        rw [HST0.out]
        unfold enterP
        simp only [hch, hbad]
        simp
      rw [hbad]
      clear hP1 hk12 hz12 h12 hl0 hch hbad HEN HST0 H411 H311
      cases bad with
      | true =>
        have HNP : Hid (¬ P1 (b3 + 1)) := H12.out.lop _ (.inr rfl)
        go_wp2_with (fail)
        refine (violFn H12.out (Nat.zero_le _)).mono ?_
        rintro e wt ⟨hbt, hzt, hkt, vt, rfl, vq, rfl, hvq⟩
        obtain ⟨RR, hRR⟩ : ∃ r, viol ⟨[S.beg], [l0], [⟨0, S.beg, l0, 0⟩], [], 0, l0.length, 0⟩ 101 = r := ⟨_, rfl⟩
        rw [hRR] at hvq ⊢
        have HEI : Hid (EndsIn S o (allP S) RR) := by show EndsIn S o (allP S) RR; rw [← hRR]; exact .inl (by rw [HST1.out]; rfl)
        have HBT := Lib.hid hbt
        have HVQ := Lib.hid hvq
        have H4T := Lib.hid (H412.out.of_eq (hkt _ (.inr (.inr rfl)) H412.out.lt))
        have HNB : Hid (b3 + 1 ≤ w12.heap.size) := Nat.le_of_lt H412.out.lt
        have hone : ([.int .i64 RR.verdict, .int .i64 RR.why, vq, .int .i64 (-1), .int .i64 (RR.states : Int), .int .i64 (RR.moves : Int), .int .i64 (RR.deep : Int)] : List Value).all (·.oneCell') = true := by
          have := hvq.one
          simp [this]
          simp [Value.oneCell']
        clear hbt hzt hkt hvq hRR 
        go_wp2_with (refine wpList_storeB rfl 30 _ _ rfl (b3 + 1) 0 [.int .i64 RR.verdict, .int .i64 RR.why, vq, .int .i64 (-1), .int .i64 (RR.states : Int), .int .i64 (RR.moves : Int), .int .i64 (RR.deep : Int)] rfl rfl H4T.out (Nat.le_of_ble_eq_true rfl) sz_Found hone ?_)
        refine Named.mk (fun wz hWz => ?_)
        have hz : Fr (fun q => q = b3 + 1) wt wz := by rw [hWz]; exact Fr.setRX _ _ 0 _
        have HZ := Lib.hid (H4T.out.stored hWz (Nat.le_of_ble_eq_true rfl))
        have HP := Lib.hid (run_end HB3.out HBT.out hz (Nat.le_succ _) HNB.out HNP.out HVQ.out HEI.out)
        clear hWz hz HBT HVQ H4T HNB HEI hone
        go_wp2
        rw [Exit.noGoto_ret]
        refine bodyPost_ret (outBox2 Try.results6 HZ.out rfl _ Try.underlying30 rfl sz_Found) rfl ?_
        exact HP.out
      | false =>
        obtain ⟨y0, hy0⟩ : ∃ y : Sr, y = ⟨[S.beg], [l0], [⟨0, S.beg, l0, 0⟩], [], 0, l0.length, 0⟩ := ⟨_, rfl⟩
        have HY0 : Hid (startP S o (allP S) = .inl y0) := by show _ = _; rw [HST1.out, hy0]; rfl
        have HI0 : Hid (Inv S o y0) := (inv_start (allP_ok S) HO2.out.1 HO1.out.1).1 y0 HY0.out
        have HL0 : Hid (SrchV I .nilIface o b3 X Sb mb F1 P1 (fun k => k = b3 ∨ k = b3 + 1) (y0.way.map (·.n)) vw1 (.slice none 0 0) w y0 w12) := by
          have h := H12.out
          rw [hy0]
          exact h
        have hn0 : 2 * (M + 1 - y0.sts.length) + y0.way.length = 2 * M + 1 := by rw [hy0]; simp
        have HN0 := Lib.hid hn0
        clear hn0 hy0 H12 HST1
        go_wp2
        go_step3
        go_wp2
        go_loopg [] (2 * M + 1) (fun gk wr => ∃ (y : Sr) (F P : Nat → Prop) (vw vp : Value), Hid (Stp S o (allP S) y0 y) ∧ Hid (SrchV I .nilIface o b3 X Sb mb F P (fun k => k = b3 ∨ k = b3 + 1) (y.way.map (·.n)) vw vp w y wr) ∧ Hid (Holds wr (b3 + 1) 30 [.int .i64 0, .int .i64 0, .slice none 0 0, .int .i64 0, .int .i64 0, .int .i64 0, .int .i64 0]) ∧ Hid (Holds wr b3 27 (optC o)) ∧ Hid (gk = 2 * (M + 1 - y.sts.length) + y.way.length))
        case atStart => exact ⟨y0, F1, P1, vw1, _, .refl _, HL0, H412, H312, HN0.out.symm⟩
        case round =>
          clear HL0 H412 H312 HN0
          obtain ⟨y, F, P, vw, vp, HSTP, HV, H4, H3, HG⟩ := hrel
          obtain ⟨gO, hgO⟩ : ∃ gO, gO = gk := ⟨_, rfl⟩
          subst hgO
          have HI : Hid (Inv S o y) := HSTP.out.inv (allP_ok S) HI0.out
          have HNP : Hid (¬ P (b3 + 1)) := HV.out.lop _ (.inr rfl)
          cases hyw : y.way with
          | nil =>
            obtain ⟨fw, w1', _⟩ := HV.out.way
            rw [hyw] at w1'
            obtain ⟨aw, cw, hvw, _, _⟩ := owns_form w1'
            have c11 := HV.out.box.cell 11
            simp only [srC, List.getElem?_cons_zero, List.getElem?_cons_succ] at c11
            rw [hvw] at c11
            have HSP : Hid (stepP S o (allP S) y = .inr (ended y)) := by show _ = _; unfold stepP; rw [hyw]
            clear hyw w1' hvw
            go_wp2_with (fail)
            refine (endedFn HV.out).mono ?_
            rintro e wt ⟨hbt, hzt, hkt, vt, rfl, vq, rfl, hvq⟩
            obtain ⟨RR, hRR⟩ : ∃ r, ended y = r := ⟨_, rfl⟩
            rw [hRR] at hvq ⊢
            have HEI : Hid (EndsIn S o (allP S) RR) := by show EndsIn S o (allP S) RR; rw [← hRR]; exact .inr ⟨y0, y, HY0.out, HSTP.out, HSP.out⟩
            have HBT := Lib.hid hbt
            have HVQ := Lib.hid hvq
            have H4T := Lib.hid (H4.out.of_eq (hkt _ (.inr (.inr rfl)) H4.out.lt))
            have HNB : Hid (b3 + 1 ≤ wr.heap.size) := Nat.le_of_lt H4.out.lt
            have hone : ([.int .i64 RR.verdict, .int .i64 RR.why, vq, .int .i64 (-1), .int .i64 (RR.states : Int), .int .i64 (RR.moves : Int), .int .i64 (RR.deep : Int)] : List Value).all (·.oneCell') = true := by
              have := hvq.one
              simp [this]
              simp [Value.oneCell']
            clear hbt hzt hkt hvq hRR c11
            go_wp2_with (refine wpList_storeB rfl 30 _ _ rfl (b3 + 1) 0 [.int .i64 RR.verdict, .int .i64 RR.why, vq, .int .i64 (-1), .int .i64 (RR.states : Int), .int .i64 (RR.moves : Int), .int .i64 (RR.deep : Int)] rfl rfl H4T.out (Nat.le_of_ble_eq_true rfl) sz_Found hone ?_)
            refine Named.mk (fun wz hWz => ?_)
            have hz : Fr (fun q => q = b3 + 1) wt wz := by rw [hWz]; exact Fr.setRX _ _ 0 _
            have HZ := Lib.hid (H4T.out.stored hWz (Nat.le_of_ble_eq_true rfl))
            have HP := Lib.hid (run_end HB3.out HBT.out hz (Nat.le_succ _) HNB.out HNP.out HVQ.out HEI.out)
            clear hWz hz HBT HVQ H4T HNB HEI hone
            go_wp2
            rw [Exit.noGoto_ret]
            refine bodyPost_ret (outBox2 Try.results6 HZ.out rfl _ Try.underlying30 rfl sz_Found) rfl ?_
            exact HP.out
          | cons f rt =>
            obtain ⟨g, cw, al, cl, hvw, hcw, t0, t1, t2, tf, hcl, hml, hgX, hgl, hgP⟩ := HV.out.top hyw
            subst hvw
            obtain ⟨m5, hm5⟩ : ∃ m, rt.length = m := ⟨_, rfl⟩
            obtain ⟨n5, hn5⟩ : ∃ n, m5 + 1 = n := ⟨_, rfl⟩
            obtain ⟨N, hN⟩ : ∃ n, f.l.length = n := ⟨_, rfl⟩
            have HM5 := Lib.hid hm5
            have HN5 := Lib.hid hn5
            have HN := Lib.hid hN
            have hML : y.sts.length ≤ M := HM.out y.sts HI.out.nd HI.out.rch
            have hbd := HI.out.bounds hML hM1 (fun s hs => HS.out.small.len s (rch_small HS.out.small (HI.out.rch s hs)))
            have hwl : n5 ≤ 999999 := by
              have h1 := hbd.2.2.2
              rw [hyw, List.length_cons, hm5, hn5] at h1
              exact h1
            have hfk := (HI.out.frm f (by rw [hyw]; exact List.mem_cons_self)).2.2
            have hNl : N ≤ 2000000 := by
              have h1 := HI.out.frm f (by rw [hyw]; exact List.mem_cons_self)
              have h2 := HI.out.sub _ _ _ h1.1 h1.2.1
              have h3 := HS.out.small.len f.s (rch_small HS.out.small (HI.out.rch _ (List.mem_of_getElem? h1.1)))
              omega
            have c11 := HV.out.box.cell 11
            simp only [srC, List.getElem?_cons_zero, List.getElem?_cons_succ] at c11
            rw [hm5, hn5] at c11
            rw [hN] at hfk
            have HYW := Lib.hid hyw
            have HGG : Hid (gO = 2 * (M + 1 - y.sts.length) + n5) := by
              have h1 := HG.out
              rw [hyw, List.length_cons, hm5, hn5] at h1
              exact h1
            have hcw5 : n5 ≤ cw := by rw [← hn5, ← hm5]; exact hcw
            have hpos : 0 < n5 := by omega
            have hsub : IntKind.i64.wrap ((n5 : Int) - 1) = (m5 : Int) := by rw [IntKind.wrap_i64]; omega
            have hmn : (m5 : Int) < (n5 : Int) := by omega
            have hm0 : (0 : Int) ≤ (m5 : Int) := by omega
            have hwm5 : IntKind.i64.wrap (m5 : Int) = (m5 : Int) := by rw [IntKind.wrap_i64]; omega
            clear hyw t0 t1 t2 tf hcl hml hgX hgl hgP hm5 hn5 hN hcw hML hbd HG
            go_wp2_with (fail)
            go_quiet (fail)
            have HVQ := Lib.hid (HV.out.fresh (below_drewN (Below.refl _ _) (Nat.le_refl _) nq))
            have H4Q : Hid (Holds (wr.drewN nq) (b3 + 1) 30 [.int .i64 0, .int .i64 0, .slice none 0 0, .int .i64 0, .int .i64 0, .int .i64 0, .int .i64 0]) := H4.out
            have H3Q : Hid (Holds (wr.drewN nq) b3 27 (optC o)) := H3.out
            obtain ⟨wq, hwq⟩ : ∃ W, wr.drewN nq = W := ⟨_, rfl⟩
            rw [hwq] at HVQ H4Q H3Q ⊢
            have HY1 : Hid (∃ (z : Sr) (k : Nat) (F P : Nat → Prop) (vp : Value), k ≤ N ∧ Hid (Stp S o (allP S) y0 z) ∧ Hid (z.way = { f with k := k } :: rt) ∧ Hid (SrchV I .nilIface o b3 X Sb mb F P (fun k => k = b3 ∨ k = b3 + 1) (z.way.map (·.n)) (.slice (some ⟨g, 0, none⟩) (rt.length + 1) cw) vp w z wq) ∧ Hid (Holds wq (b3 + 1) 30 [.int .i64 0, .int .i64 0, .slice none 0 0, .int .i64 0, .int .i64 0, .int .i64 0, .int .i64 0]) ∧ Hid (Holds wq b3 27 (optC o)) ∧ Hid (N - f.k = N - k) ∧ Hid (z.sts.length = y.sts.length)) :=
              ⟨y, f.k, F, P, vp, hfk, HSTP, HYW, by rw [HYW.out] at HVQ ⊢; exact HVQ, H4Q, H3Q, rfl, rfl⟩
            clear hwq HV H4 H3 c11 HVQ H4Q H3Q hfk HSTP HNP HI HYW
            go_wp2_with (fail)
            go_loopg [] (N - f.k) (fun gk2 wr2 => ∃ (z : Sr) (k : Nat) (F P : Nat → Prop) (vp : Value), k ≤ N ∧ Hid (Stp S o (allP S) y0 z) ∧ Hid (z.way = { f with k := k } :: rt) ∧ Hid (SrchV I .nilIface o b3 X Sb mb F P (fun k => k = b3 ∨ k = b3 + 1) (z.way.map (·.n)) (.slice (some ⟨g, 0, none⟩) (rt.length + 1) cw) vp w z wr2) ∧ Hid (Holds wr2 (b3 + 1) 30 [.int .i64 0, .int .i64 0, .slice none 0 0, .int .i64 0, .int .i64 0, .int .i64 0, .int .i64 0]) ∧ Hid (Holds wr2 b3 27 (optC o)) ∧ Hid (gk2 = N - k) ∧ Hid (z.sts.length = y.sts.length))
            case atStart => exact HY1.out
            case round =>
              clear HY1
              obtain ⟨z, k, F, P, vp, hkN, HSTP, HZW, HV, H4, H3, HG2, HC⟩ := hrel
              have HI : Hid (Inv S o z) := HSTP.out.inv (allP_ok S) HI0.out
              have HNP : Hid (¬ P (b3 + 1)) := HV.out.lop _ (.inr rfl)
              obtain ⟨al, cl, t0, t1, t2, tf, hcl, hml⟩ := HV.out.top2 HZW.out
              dsimp only at t0 t1 t2 hcl hml
              rw [HM5.out] at t0 t1 t2
              rw [HN.out] at t1 hcl hml
              have hML : z.sts.length ≤ M := HM.out z.sts HI.out.nd HI.out.rch
              have hbd := HI.out.bounds hML hM1 (fun s hs => HS.out.small.len s (rch_small HS.out.small (HI.out.rch s hs)))
              have HML := Lib.hid hML
              have HBD := Lib.hid hbd
              have HMVS := Lib.hid hml
              clear hML hbd hml
              by_cases hkn : k < N
              · have hk' : (k : Int) < (N : Int) := by omega
                have hk0 : (0 : Int) ≤ (k : Int) := by omega
                have hwk : IntKind.i64.wrap (k : Int) = (k : Int) := by rw [IntKind.wrap_i64]; omega
                have hwk1 : IntKind.i64.wrap ((k : Int) + 1) = (k : Int) + 1 := by rw [IntKind.wrap_i64]; omega
                have hkl : k < f.l.length := by rw [HN.out]; exact hkn
                obtain ⟨m, hm⟩ : ∃ m, f.l[k] = m := ⟨_, rfl⟩
                have HMK : Hid (f.l[k]? = some m) := by show _ = _; rw [List.getElem?_eq_getElem hkl, hm]
                obtain ⟨gm, om, cl', hee⟩ := HMVS.out.ptr HN.out (by omega)
                injection hee with hee _ hee2
                subst hee hee2
                obtain ⟨cm, hcm, hrm⟩ := HMVS.out.elem k hkl
                rw [hm] at hcm
                obtain ⟨a1, c1, a2, c2, rfl, r1, r2⟩ := mvF_box hcm
                obtain ⟨n1, hn1⟩ : ∃ n, m.reads.length = n := ⟨_, rfl⟩
                obtain ⟨n2, hn2⟩ : ∃ n, m.writes.length = n := ⟨_, rfl⟩
                rw [hn1, hn2] at hcm hrm
                have HCM : Hid (MvF P wr m [.int .i64 m.proc, .int .i64 m.edge, .int .i64 m.wth, .int .i64 m.wthE, .string m.dst, .int .i64 m.bad, .slice a1 n1 c1, .slice a2 n2 c2, .int .u64 (m.turns : Int)]) := hcm
                have HRM : Hid (wr.rangeAt gm (om + k * 9) [.int .i64 m.proc, .int .i64 m.edge, .int .i64 m.wth, .int .i64 m.wthE, .string m.dst, .int .i64 m.bad, .slice a1 n1 c1, .slice a2 n2 c2, .int .u64 (m.turns : Int)]) := hrm
                clear hm hkl hcm hrm r1 r2 hn1 hn2
                go_wp2_with (fail)
                go_quiet (fail)
                have hqb : Below wr.heap.size wr (wr.drewN nq) := below_drewN (Below.refl _ _) (Nat.le_refl _) nq
                have HVS := Lib.hid (HV.out.fresh hqb)
                have H4S := Lib.hid (H4.out.belowAll hqb)
                have H3S := Lib.hid (H3.out.belowAll hqb)
                have HCMS := Lib.hid (oneMv.up (Keep.below hqb) HCM.out)
                have HRMS := Lib.hid (range_below HRM.out hqb)
                have HT1 := Lib.hid (cell_up t1 hqb)
                have HT2 := Lib.hid (cell_up t2 hqb)
                obtain ⟨ws, hws⟩ : ∃ W, wr.drewN nq = W := ⟨_, rfl⟩
                rw [hws] at HVS H4S H3S HCMS HRMS HT1 HT2 ⊢
                clear hws hqb HV H4 H3 HCM HRM t0 t1 t2 tf HMVS
                go_wp2_with (fail)
                refine wp_region_rho (fun (r : Nat) j => ([(.pointer (some ⟨g, m5 * 3, none⟩)), (.pointer (some ⟨g, m5 * 3, none⟩)), (.pointer (some ⟨g, m5 * 3 + 1, none⟩)), (.slice (some ⟨gm, om, none⟩) N cl), (.pointer (some ⟨g, m5 * 3, none⟩)), (.pointer (some ⟨g, m5 * 3, none⟩)), (.pointer (some ⟨g, m5 * 3 + 2, none⟩)), (.int .i64 (k : Int)), (.pointer (some ⟨gm, om + k * 9, none⟩)), (.agg #[.int .i64 m.proc, .int .i64 m.edge, .int .i64 m.wth, .int .i64 m.wthE, .string m.dst, .int .i64 m.bad, .slice a1 n1 c1, .slice a2 n2 c2, .int .u64 (m.turns : Int)]), (.pointer (some ⟨r, 0, none⟩)), (undef)] : List Value).getD j undef) (fun r L w2 => Below ws.heap.size ws w2 ∧ (L.getD 10 false = true → ws.heap.size ≤ r ∧ Holds w2 r 75 (if L.getD 11 false then [.int .i64 m.proc, .int .i64 m.edge, .int .i64 m.wth, .int .i64 m.wthE, .string m.dst, .int .i64 m.bad, .slice a1 n1 c1, .slice a2 n2 c2, .int .u64 (m.turns : Int)] else [.int .i64 0, .int .i64 0, .int .i64 0, .int .i64 0, .string ⟨#[]⟩, .int .i64 0, .slice none 0 0, .slice none 0 0, .int .u64 0])) ∧ (L.getD 11 false = true → L.getD 10 false = true)) [(0, 110), (1, 111), (2, 112), (3, 113), (4, 114), (5, 115), (6, 116), (7, 117), (8, 118), (9, 119), (10, 15)] 236 rfl (by kernel_rfl) (by kernel_rfl) (by kernel_rfl) 0 ⟨(Fr.refl (fun _ => False) ws).drew.to_below (Nat.le_refl _) (fun _ _ h => h), (fun h => by simp at h), (fun h => by simp at h)⟩ (fun i hi => ?_) (fun r w9 hW9 => ?_)
                · have hi2 : i < 12 := hi
                  clear hi
                  have hi3 : i = 0 ∨ i = 1 ∨ i = 2 ∨ i = 3 ∨ i = 4 ∨ i = 5 ∨ i = 6 ∨ i = 7 ∨ i = 8 ∨ i = 9 ∨ i = 10 ∨ i = 11 := by omega
                  clear hi2
                  rcases hi3 with rfl | rfl | rfl | rfl | rfl | rfl | rfl | rfl | rfl | rfl | rfl | rfl
                  · exact RhoOp.pure rfl (fun r L b w2 hl hR hW => by
                      have h14 : b.eval (.tmp 14) = .pointer (some ⟨g, m5 * 3, none⟩) := (hR.old (by decide) (by kernel_rfl)).trans rfl
                      simp only [Act.eval, Array.getD_eq_getD_getElem?] at h14
                      show (execOp b.eval _).run _ _ = .ok (.value (.pointer (some ⟨g, m5 * 3, none⟩))) _
                      unfold execOp
                      simp [go_sem, h14]) (fun r L w2 hs h => by
                      simp only [gd_ne (L := L) (i := 0) (j := 10) (by decide), gd_ne (L := L) (i := 0) (j := 11) (by decide)]
                      exact h)
                  · exact RhoOp.pure rfl (fun r L b w2 hl hR hW => by
                      have h110 : b.eval (.tmp 110) = .pointer (some ⟨g, m5 * 3, none⟩) := hR.of (j := 0) (by decide) (by kernel_rfl)
                      simp only [Act.eval, Array.getD_eq_getD_getElem?] at h110
                      show (execOp b.eval _).run _ _ = .ok (.value (.pointer (some ⟨g, m5 * 3, none⟩))) _
                      unfold execOp
                      simp [go_sem, h110]) (fun r L w2 hs h => by
                      simp only [gd_ne (L := L) (i := 1) (j := 10) (by decide), gd_ne (L := L) (i := 1) (j := 11) (by decide)]
                      exact h)
                  · exact RhoOp.pure rfl (fun r L b w2 hl hR hW => by
                      have h111 : b.eval (.tmp 111) = .pointer (some ⟨g, m5 * 3, none⟩) := hR.of (j := 1) (by decide) (by kernel_rfl)
                      simp only [Act.eval, Array.getD_eq_getD_getElem?] at h111
                      show (execOp b.eval _).run _ _ = .ok (.value (.pointer (some ⟨g, m5 * 3 + 1, none⟩))) _
                      unfold execOp
                      simp [go_sem, h111]) (fun r L w2 hs h => by
                      simp only [gd_ne (L := L) (i := 2) (j := 10) (by decide), gd_ne (L := L) (i := 2) (j := 11) (by decide)]
                      exact h)
                  · exact RhoOp.pure rfl (fun r L b w2 hl hR hW => by
                      have e := cell_up HT1.out hW.1
                      have h112 : b.eval (.tmp 112) = .pointer (some ⟨g, m5 * 3 + 1, none⟩) := hR.of (j := 2) (by decide) (by kernel_rfl)
                      simp only [Act.eval, Array.getD_eq_getD_getElem?] at h112
                      show (execOp b.eval _).run _ _ = .ok (.value (.slice (some ⟨gm, om, none⟩) N cl)) _
                      unfold execOp
                      simp [go_sem, h112, e]) (fun r L w2 hs h => by
                      simp only [gd_ne (L := L) (i := 3) (j := 10) (by decide), gd_ne (L := L) (i := 3) (j := 11) (by decide)]
                      exact h)
                  · exact RhoOp.pure rfl (fun r L b w2 hl hR hW => by
                      have h14 : b.eval (.tmp 14) = .pointer (some ⟨g, m5 * 3, none⟩) := (hR.old (by decide) (by kernel_rfl)).trans rfl
                      simp only [Act.eval, Array.getD_eq_getD_getElem?] at h14
                      show (execOp b.eval _).run _ _ = .ok (.value (.pointer (some ⟨g, m5 * 3, none⟩))) _
                      unfold execOp
                      simp [go_sem, h14]) (fun r L w2 hs h => by
                      simp only [gd_ne (L := L) (i := 4) (j := 10) (by decide), gd_ne (L := L) (i := 4) (j := 11) (by decide)]
                      exact h)
                  · exact RhoOp.pure rfl (fun r L b w2 hl hR hW => by
                      have h114 : b.eval (.tmp 114) = .pointer (some ⟨g, m5 * 3, none⟩) := hR.of (j := 4) (by decide) (by kernel_rfl)
                      simp only [Act.eval, Array.getD_eq_getD_getElem?] at h114
                      show (execOp b.eval _).run _ _ = .ok (.value (.pointer (some ⟨g, m5 * 3, none⟩))) _
                      unfold execOp
                      simp [go_sem, h114]) (fun r L w2 hs h => by
                      simp only [gd_ne (L := L) (i := 5) (j := 10) (by decide), gd_ne (L := L) (i := 5) (j := 11) (by decide)]
                      exact h)
                  · exact RhoOp.pure rfl (fun r L b w2 hl hR hW => by
                      have h115 : b.eval (.tmp 115) = .pointer (some ⟨g, m5 * 3, none⟩) := hR.of (j := 5) (by decide) (by kernel_rfl)
                      simp only [Act.eval, Array.getD_eq_getD_getElem?] at h115
                      show (execOp b.eval _).run _ _ = .ok (.value (.pointer (some ⟨g, m5 * 3 + 2, none⟩))) _
                      unfold execOp
                      simp [go_sem, h115]) (fun r L w2 hs h => by
                      simp only [gd_ne (L := L) (i := 6) (j := 10) (by decide), gd_ne (L := L) (i := 6) (j := 11) (by decide)]
                      exact h)
                  · exact RhoOp.pure rfl (fun r L b w2 hl hR hW => by
                      have e := cell_up HT2.out hW.1
                      have h116 : b.eval (.tmp 116) = .pointer (some ⟨g, m5 * 3 + 2, none⟩) := hR.of (j := 6) (by decide) (by kernel_rfl)
                      simp only [Act.eval, Array.getD_eq_getD_getElem?] at h116
                      show (execOp b.eval _).run _ _ = .ok (.value (.int .i64 (k : Int))) _
                      unfold execOp
                      simp [go_sem, h116, e]) (fun r L w2 hs h => by
                      simp only [gd_ne (L := L) (i := 7) (j := 10) (by decide), gd_ne (L := L) (i := 7) (j := 11) (by decide)]
                      exact h)
                  · exact RhoOp.pure rfl (fun r L b w2 hl hR hW => by
                      have h113 : b.eval (.tmp 113) = .slice (some ⟨gm, om, none⟩) N cl := hR.of (j := 3) (by decide) (by kernel_rfl)
                      have h117 : b.eval (.tmp 117) = .int .i64 (k : Int) := hR.of (j := 7) (by decide) (by kernel_rfl)
                      simp only [Act.eval, Array.getD_eq_getD_getElem?] at h113 h117
                      show (execOp b.eval _).run _ _ = .ok (.value (.pointer (some ⟨gm, om + k * 9, none⟩))) _
                      unfold execOp
                      simp [go_sem, h113, h117, hk0, hk', hwk]) (fun r L w2 hs h => by
                      simp only [gd_ne (L := L) (i := 8) (j := 10) (by decide), gd_ne (L := L) (i := 8) (j := 11) (by decide)]
                      exact h)
                  · exact RhoOp.pure rfl (fun r L b w2 hl hR hW => by
                      have hlo := run_loadAt_mid (P := Try.prog) w2 gm (om + k * 9) 75 [.int .i64 m.proc, .int .i64 m.edge, .int .i64 m.wth, .int .i64 m.wthE, .string m.dst, .int .i64 m.bad, .slice a1 n1 c1, .slice a2 n2 c2, .int .u64 (m.turns : Int)] _ (range_below HRMS.out hW.1) Try.underlying75 rfl sz_Move
                      have h118 : b.eval (.tmp 118) = .pointer (some ⟨gm, om + k * 9, none⟩) := hR.of (j := 8) (by decide) (by kernel_rfl)
                      simp only [Act.eval, Array.getD_eq_getD_getElem?] at h118
                      show (execOp b.eval _).run _ _ = .ok (.value (.agg #[.int .i64 m.proc, .int .i64 m.edge, .int .i64 m.wth, .int .i64 m.wthE, .string m.dst, .int .i64 m.bad, .slice a1 n1 c1, .slice a2 n2 c2, .int .u64 (m.turns : Int)])) _
                      unfold execOp
                      simp [Act.eval, h118, Sem.run_bind, hlo]) (fun r L w2 hs h => by
                      simp only [gd_ne (L := L) (i := 9) (j := 10) (by decide), gd_ne (L := L) (i := 9) (j := 11) (by decide)]
                      exact h)
                  · exact RhoOp.make rfl (fun r L b w2 hs hl hR hW => by
                      refine ⟨w2.heap.size, w2.alloc (.cells #[.int .i64 0, .int .i64 0, .int .i64 0, .int .i64 0, .string ⟨#[]⟩, .int .i64 0, .slice none 0 0, .slice none 0 0, .int .u64 0] 75), ?_, ?_, ?_⟩
                      · exact fun j hj => match j, hj with | 10, hj => (by rw [hl] at hj; cases hj) | 0, _ => rfl | 1, _ => rfl | 2, _ => rfl | 3, _ => rfl | 4, _ => rfl | 5, _ => rfl | 6, _ => rfl | 7, _ => rfl | 8, _ => rfl | 9, _ => rfl | 11, _ => rfl | j + 12, _ => rfl
                      · show (execOp b.eval _).run _ _ = .ok (.value (.pointer (some ⟨(w2.heap.size), 0, none⟩))) _
                        unfold execOp
                        simp [go_sem, ]
                      · have hb : Below w2.heap.size w2 (w2.alloc (.cells #[.int .i64 0, .int .i64 0, .int .i64 0, .int .i64 0, .string ⟨#[]⟩, .int .i64 0, .slice none 0 0, .slice none 0 0, .int .u64 0] 75)) := (Below.refl _ _).alloc (Nat.le_refl _) _
                        have h11 : L.getD 11 false = false := by
                          cases hq : L.getD 11 false with
                          | false => rfl
                          | true => have := hW.2.2 hq; rw [hl] at this; cases this
                        refine ⟨hW.1.trans (hb.mono hW.1.size), fun _ => ⟨hW.1.size, ?_⟩, fun q => ?_⟩
                        · rw [gd_ne (by decide), h11]
                          exact Holds.new w2 75 #[.int .i64 0, .int .i64 0, .int .i64 0, .int .i64 0, .string ⟨#[]⟩, .int .i64 0, .slice none 0 0, .slice none 0 0, .int .u64 0]
                        · rw [gd_ne (by decide), h11] at q; cases q)
                  · exact RhoOp.store rfl rfl (fun r L b w2 hs hl hR hW => by
                      have h10 := hR.on (j := 10) (by kernel_rfl)
                      obtain ⟨hge, hbx⟩ := hW.2.1 h10
                      rw [hl] at hbx
                      have hst : (Instr.storeAt 75 (.pointer (some ⟨r, 0, none⟩)) (.agg #[.int .i64 m.proc, .int .i64 m.edge, .int .i64 m.wth, .int .i64 m.wthE, .string m.dst, .int .i64 m.bad, .slice a1 n1 c1, .slice a2 n2 c2, .int .u64 (m.turns : Int)])).run Try.prog w2 = .ok () (setR w2 r 0 [.int .i64 m.proc, .int .i64 m.edge, .int .i64 m.wth, .int .i64 m.wthE, .string m.dst, .int .i64 m.bad, .slice a1 n1 c1, .slice a2 n2 c2, .int .u64 (m.turns : Int)]) := storeN (P := Try.prog) (ty := 75) (xs := [.int .i64 m.proc, .int .i64 m.edge, .int .i64 m.wth, .int .i64 m.wthE, .string m.dst, .int .i64 m.bad, .slice a1 n1 c1, .slice a2 n2 c2, .int .u64 (m.turns : Int)]) (i := 0) hbx (Nat.le_of_ble_eq_true rfl) sz_Move (oneMv.one HCMS.out)
                      have h15 : b.eval (.tmp 15) = .pointer (some ⟨r, 0, none⟩) := hR.of (j := 10) (by decide) (by kernel_rfl)
                      have h119 : b.eval (.tmp 119) = .agg #[.int .i64 m.proc, .int .i64 m.edge, .int .i64 m.wth, .int .i64 m.wthE, .string m.dst, .int .i64 m.bad, .slice a1 n1 c1, .slice a2 n2 c2, .int .u64 (m.turns : Int)] := hR.of (j := 9) (by decide) (by kernel_rfl)
                      simp only [Act.eval, Array.getD_eq_getD_getElem?] at h15 h119
                      refine ⟨r, setR w2 r 0 [.int .i64 m.proc, .int .i64 m.edge, .int .i64 m.wth, .int .i64 m.wthE, .string m.dst, .int .i64 m.bad, .slice a1 n1 c1, .slice a2 n2 c2, .int .u64 (m.turns : Int)], fun _ _ => rfl, ?_, ?_⟩
                      · show (execOp b.eval _).run _ _ = .ok .skip _
                        unfold execOp
                        simp [Act.eval, h15, h119, Sem.run_bind, hst]
                      · have hfr := Fr.setRX r [.int .i64 m.proc, .int .i64 m.edge, .int .i64 m.wth, .int .i64 m.wthE, .string m.dst, .int .i64 m.bad, .slice a1 n1 c1, .slice a2 n2 c2, .int .u64 (m.turns : Int)] 0 w2
                        refine ⟨hW.1.trans (hfr.to_below hW.1.size fun q hq e => by have e : q = r := e; omega), fun _ => ⟨hge, ?_⟩, fun _ => ?_⟩
                        · rw [gd_eq (by rw [hs]; decide), if_pos rfl]
                          exact hbx.stored (W' := setR w2 r 0 [.int .i64 m.proc, .int .i64 m.edge, .int .i64 m.wth, .int .i64 m.wthE, .string m.dst, .int .i64 m.bad, .slice a1 n1 c1, .slice a2 n2 c2, .int .u64 (m.turns : Int)]) rfl (Nat.le_of_ble_eq_true rfl)
                        · rw [gd_ne (by decide)]; exact h10)
                · refine puts_as (ps := [(0, 110, .pointer (some ⟨g, m5 * 3, none⟩)), (1, 111, .pointer (some ⟨g, m5 * 3, none⟩)), (2, 112, .pointer (some ⟨g, m5 * 3 + 1, none⟩)), (3, 113, .slice (some ⟨gm, om, none⟩) N cl), (4, 114, .pointer (some ⟨g, m5 * 3, none⟩)), (5, 115, .pointer (some ⟨g, m5 * 3, none⟩)), (6, 116, .pointer (some ⟨g, m5 * 3 + 2, none⟩)), (7, 117, .int .i64 (k : Int)), (8, 118, .pointer (some ⟨gm, om + k * 9, none⟩)), (9, 119, .agg #[.int .i64 m.proc, .int .i64 m.edge, .int .i64 m.wth, .int .i64 m.wthE, .string m.dst, .int .i64 m.bad, .slice a1 n1 c1, .slice a2 n2 c2, .int .u64 (m.turns : Int)]), (10, 15, .pointer (some ⟨r, 0, none⟩))]) rfl ?_
                  simp only [puts, Act.put, List.setIfInBounds_toArray, List.set_cons_zero, List.set_cons_succ]
                  obtain ⟨k1, k2, -⟩ := hW9
                  have k2' := k2 (by simp)
                  rw [if_pos (by simp)] at k2'
                  obtain ⟨b15, rfl⟩ : ∃ b, b = r := ⟨_, rfl⟩
                  obtain ⟨hge, h15⟩ := k2'
                  have HV17 := Lib.hid (HVS.out.local_ k1 hge h15.lt)
                  have H15 := Lib.hid h15
                  have H417 := Lib.hid (H4S.out.belowAll k1)
                  have H317 := Lib.hid (H3S.out.belowAll k1)
                  have HCM17 := Lib.hid (oneMv.up (Keep.below k1) HCMS.out)
                  obtain ⟨al2, cl2, -, -, t2, tf, -, -⟩ := HV17.out.top2 HZW.out
                  dsimp only at t2
                  rw [HM5.out] at t2
                  have z2 := tf (m5 * 3 + 2)
                  have HSP : Hid (stepP S o (allP S) z = if o.depth ≤ z.path.length then .inl { z with way := { f with k := k + 1 } :: rt, limit := 103 } else if m.bad ≠ 0 then .inr (viol { z with way := { f with k := k } :: rt, path := z.path ++ [m] } m.bad) else match putP o z.sts m.dst with | .full why => .inr (ended { z with way := { f with k := k } :: rt, path := [], limit := why }) | .old => .inl { z with way := { f with k := k + 1 } :: rt } | .new => enterP S o (allP S) { z with way := { f with k := k + 1 } :: rt, path := z.path ++ [m] } m.dst) := by
                    show _ = _
                    unfold stepP
                    rw [HZW.out]
                    dsimp only
                    rw [HMK.out]
                    rfl
                  clear tf k1 k2 hge h15 HVS H4S H3S HCMS HRMS HT1 HT2
                  go_upto_region 19 with (fail)
                  obtain ⟨w18, hw18⟩ : ∃ W, W = w9.setCell ⟨g, m5 * 3 + 2, none⟩ (.int .i64 ((k : Int) + 1)) := ⟨_, rfl⟩
                  rw [← hw18]
                  have hk18 := HV17.out.keepBump hw18
                  have h18 := HV17.out.bump HZW.out (w' := w18) (by rw [HM5.out, hw18]; rfl)
                  obtain ⟨fp0, p1, -⟩ := h18.path
                  obtain ⟨ap, cp, hvp, hcp, -⟩ := owns_form p1
                  obtain ⟨PL, hPL⟩ : ∃ n, z.path.length = n := ⟨_, rfl⟩
                  have hPL2 : ({ z with way := { f with k := k + 1 } :: rt } : Sr).path.length = PL := hPL
                  rw [hPL2] at hvp hcp
                  have HPL := Lib.hid hPL
                  have H18 : Hid (SrchV I .nilIface o b3 X Sb mb F P (fun k => (k = b3 ∨ k = b3 + 1) ∨ k = b15) (z.way.map (·.n)) (.slice (some ⟨g, 0, none⟩) (rt.length + 1) cw) vp w { z with way := { f with k := k + 1 } :: rt } w18) := h18
                  have H1518 := Lib.hid (H15.out.of_eq (hk18 _ (.inr (.inr rfl)) H15.out.lt))
                  have H418 := Lib.hid (H417.out.of_eq (hk18 _ (.inr (.inl (.inr rfl))) H417.out.lt))
                  have H318 := Lib.hid (H317.out.of_eq (hk18 _ (.inr (.inl (.inl rfl))) H317.out.lt))
                  have HCM18 := Lib.hid (oneMv.up (hk18.imp fun k hk => .inl hk) HCM17.out)
                  have hPLb : PL ≤ 999999 := by have h1 := HBD.out.2.2.1; rw [hPL] at h1; exact h1
                  subst hvp
                  have c12 := H18.out.box.cell 12
                  simp only [srC, List.getElem?_cons_zero, List.getElem?_cons_succ] at c12
                  have d0 := H318.out.cell 0
                  simp only [optC, List.getElem?_cons_zero, List.getElem?_cons_succ] at d0
                  clear hw18 hk18 h18 p1 hPL hPL2 HV17 H15 H417 H317 HCM17 t2 z2
                  by_cases hd : o.depth ≤ (PL : Int)
                  · go_wp2_with (fail)
                    go_quiet (fail)
                    have hqb : Below w18.heap.size w18 (w18.drewN nq) := below_drewN (Below.refl _ _) (Nat.le_refl _) nq
                    have HVS := Lib.hid (H18.out.fresh hqb)
                    have H4S := Lib.hid (H418.out.belowAll hqb)
                    have H3S := Lib.hid (H318.out.belowAll hqb)
                    have HBX := Lib.hid HVS.out.box
                    obtain ⟨ws, hws⟩ : ∃ W, w18.drewN nq = W := ⟨_, rfl⟩
                    rw [hws] at HVS H4S H3S HBX ⊢
                    clear hqb hws c12 d0 H18 H418 H318 H1518 HCM18
                    go_wp2_with (refine wpList_store1 rfl 3 _ _ rfl X 13 (.int .i64 103) rfl rfl HBX.out (Nat.le_of_ble_eq_true rfl) sz_Int rfl rfl ?_)
                    refine Named.mk (fun w20 hW20 => ?_)
                    obtain ⟨h20, k20⟩ := HVS.out.setLim hW20
                    have HL1 := Lib.hid (h20.locals (Q' := (fun k => k = b3 ∨ k = b3 + 1)) fun k hk => .inl hk)
                    have H420 := Lib.hid (H4S.out.of_eq (k20 _ (.inr (.inl (.inr rfl))) H4S.out.lt))
                    have H320 := Lib.hid (H3S.out.of_eq (k20 _ (.inr (.inl (.inl rfl))) H3S.out.lt))
                    have HST2 : Hid (Stp S o (allP S) y0 { z with way := { f with k := k + 1 } :: rt, limit := 103 }) := HSTP.out.tail (by rw [HSP.out, if_pos (by rw [HPL.out]; exact hd)])
                    clear hW20 h20 k20 HVS H4S H3S HBX
                    go_wp2
                    go_roundg (N - (k + 1))
                    case measure => rw [HG2.out]; omega
                    case rel => exact ⟨{ z with way := { f with k := k + 1 } :: rt, limit := 103 }, k + 1, F, P, _, by omega, HST2, rfl, by have h := HL1.out; rw [HZW.out] at h; exact h, H420, H320, rfl, HC⟩
                  · go_wp2_with (fail)
                    go_quiet (fail)
                    have hqb : Below w18.heap.size w18 (w18.drewN nq) := below_drewN (Below.refl _ _) (Nat.le_refl _) nq
                    have HVU := Lib.hid (H18.out.fresh hqb)
                    have H4U := Lib.hid (H418.out.belowAll hqb)
                    have H3U := Lib.hid (H318.out.belowAll hqb)
                    have H15U := Lib.hid (H1518.out.belowAll hqb)
                    have HCMU := Lib.hid (oneMv.up (Keep.below hqb) HCM18.out)
                    obtain ⟨wu, hwu⟩ : ∃ W, w18.drewN nq = W := ⟨_, rfl⟩
                    rw [hwu] at HVU H4U H3U H15U HCMU ⊢
                    obtain ⟨i0, z0, hi0, hz0, hz1, hz2, hz3⟩ := info_of info_move
                    replace HSP := Lib.hid (HSP.out.trans (if_neg (by rw [HPL.out]; omega)))
                    have hdep : (PL : Int) < o.depth := by omega
                    clear hqb hwu c12 d0 H18 H418 H318 H1518 HCM18 hd
                    go_wp2_with (fail)
                    refine wp_region_rho (fun (r : Nat × Value) j => ([(.pointer (some ⟨X, 0, none⟩)), (.pointer (some ⟨X, 0, none⟩)), (.pointer (some ⟨X, 0, none⟩)), (.pointer (some ⟨X, 12, none⟩)), (.slice ap PL cp), (.agg #[.int .i64 m.proc, .int .i64 m.edge, .int .i64 m.wth, .int .i64 m.wthE, .string m.dst, .int .i64 m.bad, .slice a1 n1 c1, .slice a2 n2 c2, .int .u64 (m.turns : Int)]), (.slice (some ⟨r.1, 0, none⟩) 1 1), (r.2), (.pointer (some ⟨X, 0, none⟩)), (.pointer (some ⟨X, 12, none⟩)), (undef)] : List Value).getD j undef) (fun r L w2 => PathW (fun V => SrchV I .nilIface o b3 X Sb mb F P (fun k => (k = b3 ∨ k = b3 + 1) ∨ k = b15) (z.way.map (·.n)) (.slice (some ⟨g, 0, none⟩) (rt.length + 1) cw) (.slice ap PL cp) w { z with way := { f with k := k + 1 } :: rt } V ∧ Keep (fun k => P k ∨ ((k = b3 ∨ k = b3 + 1) ∨ k = b15)) wu V ∧ wu.heap.size ≤ V.heap.size) (fun b V => ∀ (j : Nat) (u : Value), ([.int .i64 m.proc, .int .i64 m.edge, .int .i64 m.wth, .int .i64 m.wthE, .string m.dst, .int .i64 m.bad, .slice a1 n1 c1, .slice a2 n2 c2, .int .u64 (m.turns : Int)] : List Value)[j]? = some u → V.cell? ((⟨b, 0, none⟩ : Addr).add j) = some u) (fun v V => ∃ (wA : World) (fp : List Value), (SrchV I .nilIface o b3 X Sb mb F P (fun k => (k = b3 ∨ k = b3 + 1) ∨ k = b15) (z.way.map (·.n)) (.slice (some ⟨g, 0, none⟩) (rt.length + 1) cw) (.slice ap PL cp) w { z with way := { f with k := k + 1 } :: rt } wA) ∧ Keep (fun k => P k ∨ ((k = b3 ∨ k = b3 + 1) ∨ k = b15)) wu wA ∧ wu.heap.size ≤ wA.heap.size ∧ wA.ownsRow b3 75 9 (.slice ap PL cp) PL fp ∧ LsF MvF P wA z.path fp ∧ MvF P wA m [.int .i64 m.proc, .int .i64 m.edge, .int .i64 m.wth, .int .i64 m.wthE, .string m.dst, .int .i64 m.bad, .slice a1 n1 c1, .slice a2 n2 c2, .int .u64 (m.turns : Int)] ∧ V.ownsRow b3 75 9 v (PL + 1) (fp ++ [.int .i64 m.proc, .int .i64 m.edge, .int .i64 m.wth, .int .i64 m.wthE, .string m.dst, .int .i64 m.bad, .slice a1 n1 c1, .slice a2 n2 c2, .int .u64 (m.turns : Int)]) ∧ wA.grownBy V (Value.slice ap PL cp).ownBlock ∧ (v.ownBlock = (Value.slice ap PL cp).ownBlock ∨ v.ownBlock = some wA.heap.size)) (fun v V => SrchV I .nilIface o b3 X Sb mb F P (fun k => (k = b3 ∨ k = b3 + 1) ∨ k = b15) (z.way.map (·.n)) (.slice (some ⟨g, 0, none⟩) (rt.length + 1) cw) v w { z with way := { f with k := k + 1 } :: rt, path := z.path ++ [m] } V ∧ Keep (fun k => P k ∨ ((k = b3 ∨ k = b3 + 1) ∨ k = b15)) wu V ∧ wu.heap.size ≤ V.heap.size) (L.getD 4 false) (L.getD 5 false) (L.getD 6 false) (L.getD 7 false) (L.getD 10 false) r w2) [(0, 138), (1, 139), (2, 140), (3, 141), (4, 142), (5, 143), (6, 144), (7, 145), (8, 146), (9, 147)] 236 rfl (by kernel_rfl) (by kernel_rfl) (by kernel_rfl) (0, undef) (PathW.first _ ⟨HVU.out.drew, fun _ _ _ => rfl, Nat.le_refl _⟩) (fun i hi => ?_) (fun r w9 hW9 => ?_)
                    · have hi2 : i < 11 := hi
                      clear hi
                      have hi3 : i = 0 ∨ i = 1 ∨ i = 2 ∨ i = 3 ∨ i = 4 ∨ i = 5 ∨ i = 6 ∨ i = 7 ∨ i = 8 ∨ i = 9 ∨ i = 10 := by omega
                      clear hi2
                      rcases hi3 with rfl | rfl | rfl | rfl | rfl | rfl | rfl | rfl | rfl | rfl | rfl
                      · exact RhoOp.pure rfl (fun r L b w2 hl hR hW => by
                          have h9 : b.eval (.tmp 9) = .pointer (some ⟨X, 0, none⟩) := (hR.old (by decide) (by kernel_rfl)).trans rfl
                          simp only [Act.eval, Array.getD_eq_getD_getElem?] at h9
                          show (execOp b.eval _).run _ _ = .ok (.value (.pointer (some ⟨X, 0, none⟩))) _
                          unfold execOp
                          simp [go_sem, h9]) (fun r L w2 hs h => by
                          simp only [gd_ne (L := L) (i := 0) (j := 4) (by decide), gd_ne (L := L) (i := 0) (j := 5) (by decide), gd_ne (L := L) (i := 0) (j := 6) (by decide), gd_ne (L := L) (i := 0) (j := 7) (by decide), gd_ne (L := L) (i := 0) (j := 10) (by decide)]
                          exact h)
                      · exact RhoOp.pure rfl (fun r L b w2 hl hR hW => by
                          have h9 : b.eval (.tmp 9) = .pointer (some ⟨X, 0, none⟩) := (hR.old (by decide) (by kernel_rfl)).trans rfl
                          simp only [Act.eval, Array.getD_eq_getD_getElem?] at h9
                          show (execOp b.eval _).run _ _ = .ok (.value (.pointer (some ⟨X, 0, none⟩))) _
                          unfold execOp
                          simp [go_sem, h9]) (fun r L w2 hs h => by
                          simp only [gd_ne (L := L) (i := 1) (j := 4) (by decide), gd_ne (L := L) (i := 1) (j := 5) (by decide), gd_ne (L := L) (i := 1) (j := 6) (by decide), gd_ne (L := L) (i := 1) (j := 7) (by decide), gd_ne (L := L) (i := 1) (j := 10) (by decide)]
                          exact h)
                      · exact RhoOp.pure rfl (fun r L b w2 hl hR hW => by
                          have h139 : b.eval (.tmp 139) = .pointer (some ⟨X, 0, none⟩) := hR.of (j := 1) (by decide) (by kernel_rfl)
                          simp only [Act.eval, Array.getD_eq_getD_getElem?] at h139
                          show (execOp b.eval _).run _ _ = .ok (.value (.pointer (some ⟨X, 0, none⟩))) _
                          unfold execOp
                          simp [go_sem, h139]) (fun r L w2 hs h => by
                          simp only [gd_ne (L := L) (i := 2) (j := 4) (by decide), gd_ne (L := L) (i := 2) (j := 5) (by decide), gd_ne (L := L) (i := 2) (j := 6) (by decide), gd_ne (L := L) (i := 2) (j := 7) (by decide), gd_ne (L := L) (i := 2) (j := 10) (by decide)]
                          exact h)
                      · exact RhoOp.pure rfl (fun r L b w2 hl hR hW => by
                          have h140 : b.eval (.tmp 140) = .pointer (some ⟨X, 0, none⟩) := hR.of (j := 2) (by decide) (by kernel_rfl)
                          simp only [Act.eval, Array.getD_eq_getD_getElem?] at h140
                          show (execOp b.eval _).run _ _ = .ok (.value (.pointer (some ⟨X, 12, none⟩))) _
                          unfold execOp
                          simp [go_sem, h140]) (fun r L w2 hs h => by
                          simp only [gd_ne (L := L) (i := 3) (j := 4) (by decide), gd_ne (L := L) (i := 3) (j := 5) (by decide), gd_ne (L := L) (i := 3) (j := 6) (by decide), gd_ne (L := L) (i := 3) (j := 7) (by decide), gd_ne (L := L) (i := 3) (j := 10) (by decide)]
                          exact h)
                      · exact RhoOp.pure rfl (fun r L b w2 hl hR hW => by
                          rw [hl] at hW
                          have e := hW.at4.1.box.cell 12
                          simp only [srC, List.getElem?_cons_zero, List.getElem?_cons_succ] at e
                          have h141 : b.eval (.tmp 141) = .pointer (some ⟨X, 12, none⟩) := hR.of (j := 3) (by decide) (by kernel_rfl)
                          simp only [Act.eval, Array.getD_eq_getD_getElem?] at h141
                          show (execOp b.eval _).run _ _ = .ok (.value (.slice ap PL cp)) _
                          unfold execOp
                          simp [go_sem, h141, e]) (fun r L w2 hs h => by
                          simp only [gd_eq (L := L) (i := 4) (by rw [hs]; decide), gd_ne (L := L) (i := 4) (j := 5) (by decide), gd_ne (L := L) (i := 4) (j := 6) (by decide), gd_ne (L := L) (i := 4) (j := 7) (by decide), gd_ne (L := L) (i := 4) (j := 10) (by decide)]
                          exact h.set4)
                      · exact RhoOp.pure rfl (fun r L b w2 hl hR hW => by
                          rw [hl] at hW
                          have hA := hW.at5
                          have h15 := H15U.out.of_eq (hA.2.1 _ (.inr (.inr rfl)) H15U.out.lt)
                          have hlo := run_loadAt_mid (P := Try.prog) w2 b15 0 75 [.int .i64 m.proc, .int .i64 m.edge, .int .i64 m.wth, .int .i64 m.wthE, .string m.dst, .int .i64 m.bad, .slice a1 n1 c1, .slice a2 n2 c2, .int .u64 (m.turns : Int)] _ (h15.range (i := 0) (n := 9) rfl) Try.underlying75 rfl sz_Move
                          have h15 : b.eval (.tmp 15) = .pointer (some ⟨b15, 0, none⟩) := (hR.old (by decide) (by kernel_rfl)).trans rfl
                          simp only [Act.eval, Array.getD_eq_getD_getElem?] at h15
                          show (execOp b.eval _).run _ _ = .ok (.value (.agg #[.int .i64 m.proc, .int .i64 m.edge, .int .i64 m.wth, .int .i64 m.wthE, .string m.dst, .int .i64 m.bad, .slice a1 n1 c1, .slice a2 n2 c2, .int .u64 (m.turns : Int)])) _
                          unfold execOp
                          simp [Act.eval, h15, Sem.run_bind, hlo]) (fun r L w2 hs h => by
                          simp only [gd_eq (L := L) (i := 5) (by rw [hs]; decide), gd_ne (L := L) (i := 5) (j := 4) (by decide), gd_ne (L := L) (i := 5) (j := 6) (by decide), gd_ne (L := L) (i := 5) (j := 7) (by decide), gd_ne (L := L) (i := 5) (j := 10) (by decide)]
                          exact h.set5)
                      · exact RhoOp.make rfl (fun r L b w2 hs hl hR hW => by
                          have h143 : b.eval (.tmp 143) = .agg #[.int .i64 m.proc, .int .i64 m.edge, .int .i64 m.wth, .int .i64 m.wthE, .string m.dst, .int .i64 m.bad, .slice a1 n1 c1, .slice a2 n2 c2, .int .u64 (m.turns : Int)] := hR.of (j := 5) (by decide) (by kernel_rfl)
                          simp only [Act.eval, Array.getD_eq_getD_getElem?] at h143
                          refine ⟨(w2.heap.size, r.2), w2.alloc (.cells #[.int .i64 m.proc, .int .i64 m.edge, .int .i64 m.wth, .int .i64 m.wthE, .string m.dst, .int .i64 m.bad, .slice a1 n1 c1, .slice a2 n2 c2, .int .u64 (m.turns : Int)] 75), ?_, ?_, ?_⟩
                          · exact fun j hj => match j, hj with | 6, hj => (by rw [hl] at hj; cases hj) | 0, _ => rfl | 1, _ => rfl | 2, _ => rfl | 3, _ => rfl | 4, _ => rfl | 5, _ => rfl | 7, _ => rfl | 8, _ => rfl | 9, _ => rfl | 10, _ => rfl | j + 11, _ => rfl
                          · show (execOp b.eval _).run _ _ = .ok (.value (.slice (some ⟨((w2.heap.size, r.2)).1, 0, none⟩) 1 1)) _
                            unfold execOp
                            simp [go_sem, h143]
                          · have z5 := hR.on (j := 5) (by kernel_rfl)
                            rw [hl] at hW
                            simp only [gd_eq (L := L) (i := 6) (by rw [hs]; decide), gd_ne (L := L) (i := 6) (j := 4) (by decide), gd_ne (L := L) (i := 6) (j := 5) (by decide), gd_ne (L := L) (i := 6) (j := 7) (by decide), gd_ne (L := L) (i := 6) (j := 10) (by decide)]
                            have hb : Below w2.heap.size w2 (w2.alloc (.cells #[.int .i64 m.proc, .int .i64 m.edge, .int .i64 m.wth, .int .i64 m.wthE, .string m.dst, .int .i64 m.bad, .slice a1 n1 c1, .slice a2 n2 c2, .int .u64 (m.turns : Int)] 75)) := (Below.refl _ _).alloc (Nat.le_refl _) _
                            exact hW.lit z5 fun hA => ⟨⟨hA.1.fresh hb, hA.2.1.trans (Keep.below hb) hA.2.2, Nat.le_trans hA.2.2 hb.size⟩, fun j u hu => by rw [Addr.add_lit, Nat.zero_add]; exact ((Holds.new w2 75 #[.int .i64 m.proc, .int .i64 m.edge, .int .i64 m.wth, .int .i64 m.wthE, .string m.dst, .int .i64 m.bad, .slice a1 n1 c1, .slice a2 n2 c2, .int .u64 (m.turns : Int)]).cell j).trans hu⟩)
                      · exact rho_append (.tmp 142) (.tmp 144) 28 rfl rfl (fun r L b w2 hs hl hR hW => by
                          have z4 := hR.on (j := 4) (by kernel_rfl)
                          have z6 := hR.on (j := 6) (by kernel_rfl)
                          rw [hl] at hW
                          have hAL := hW.2.2.2.2.2 rfl
                          obtain ⟨fp, p1, p2⟩ := hAL.1.1.path
                          have p1' : w2.ownsRow b3 75 9 (.slice ap PL cp) PL fp := by rw [← HPL.out]; rw [← HPL.out] at p1; exact p1
                          have hcm2 : MvF P w2 m [.int .i64 m.proc, .int .i64 m.edge, .int .i64 m.wth, .int .i64 m.wthE, .string m.dst, .int .i64 m.bad, .slice a1 n1 c1, .slice a2 n2 c2, .int .u64 (m.turns : Int)] := oneMv.up (fun k hk hs => hAL.1.2.1 k (.inl hk) hs) HCMU.out
                          obtain ⟨v', w', hr, g2, g3, -, g5⟩ := run_append_own_at (P := Try.prog) w2 b3 28 28 75 i0 z0 9 112 Try.underlying28 hi0 hz0 hz1 hz2 hz3 (by omega) (.slice ap PL cp) PL fp p1' ⟨r.1, 0, none⟩ 1 1 [.int .i64 m.proc, .int .i64 m.edge, .int .i64 m.wth, .int .i64 m.wthE, .string m.dst, .int .i64 m.bad, .slice a1 n1 c1, .slice a2 n2 c2, .int .u64 (m.turns : Int)] rfl (hAL.2 z6) (fun u hu => List.all_eq_true.1 (oneMv.one hcm2) u hu) (by unfold maxLen; omega) (by omega) hAL.1.1.size
                          have h142 : b.eval (.tmp 142) = .slice ap PL cp := hR.of (j := 4) (by decide) (by kernel_rfl)
                          have h144 : b.eval (.tmp 144) = .slice (some ⟨r.1, 0, none⟩) 1 1 := hR.of (j := 6) (by decide) (by kernel_rfl)
                          refine ⟨(r.1, v'), w', _, _, fun j hj => ?_, h142, h144, hr, ?_⟩
                          · exact (match j, hj with | 7, hj => (by rw [hl] at hj; cases hj) | 0, _ => rfl | 1, _ => rfl | 2, _ => rfl | 3, _ => rfl | 4, _ => rfl | 5, _ => rfl | 6, _ => rfl | 8, _ => rfl | 9, _ => rfl | 10, _ => rfl | j + 11, _ => rfl)
                          · simp only [gd_eq (L := L) (i := 7) (by rw [hs]; decide), gd_ne (L := L) (i := 7) (j := 4) (by decide), gd_ne (L := L) (i := 7) (j := 5) (by decide), gd_ne (L := L) (i := 7) (j := 6) (by decide), gd_ne (L := L) (i := 7) (j := 10) (by decide)]
                            exact hW.app z4 z6 fun hA hL => ⟨w2, fp, hA.1, hA.2.1, hA.2.2, p1', p2, hcm2, g2, g3, g5⟩)
                      · exact RhoOp.pure rfl (fun r L b w2 hl hR hW => by
                          have h138 : b.eval (.tmp 138) = .pointer (some ⟨X, 0, none⟩) := hR.of (j := 0) (by decide) (by kernel_rfl)
                          simp only [Act.eval, Array.getD_eq_getD_getElem?] at h138
                          show (execOp b.eval _).run _ _ = .ok (.value (.pointer (some ⟨X, 0, none⟩))) _
                          unfold execOp
                          simp [go_sem, h138]) (fun r L w2 hs h => by
                          simp only [gd_ne (L := L) (i := 8) (j := 4) (by decide), gd_ne (L := L) (i := 8) (j := 5) (by decide), gd_ne (L := L) (i := 8) (j := 6) (by decide), gd_ne (L := L) (i := 8) (j := 7) (by decide), gd_ne (L := L) (i := 8) (j := 10) (by decide)]
                          exact h)
                      · exact RhoOp.pure rfl (fun r L b w2 hl hR hW => by
                          have h146 : b.eval (.tmp 146) = .pointer (some ⟨X, 0, none⟩) := hR.of (j := 8) (by decide) (by kernel_rfl)
                          simp only [Act.eval, Array.getD_eq_getD_getElem?] at h146
                          show (execOp b.eval _).run _ _ = .ok (.value (.pointer (some ⟨X, 12, none⟩))) _
                          unfold execOp
                          simp [go_sem, h146]) (fun r L w2 hs h => by
                          simp only [gd_ne (L := L) (i := 9) (j := 4) (by decide), gd_ne (L := L) (i := 9) (j := 5) (by decide), gd_ne (L := L) (i := 9) (j := 6) (by decide), gd_ne (L := L) (i := 9) (j := 7) (by decide), gd_ne (L := L) (i := 9) (j := 10) (by decide)]
                          exact h)
                      · exact RhoOp.store rfl rfl (fun r L b w2 hs hl hR hW => by
                          have z7 := hR.on (j := 7) (by kernel_rfl)
                          rw [hl] at hW
                          obtain ⟨wA, fp, hA1, hA2, hA3, g1, g2, g3, g4, g5, g6⟩ := hW.2.2.2.2.1 rfl z7
                          have hbx := hA1.boxGrown g1 g5
                          obtain ⟨av, cv, hv, -, -⟩ := owns_form g4
                          have hst : (Instr.storeAt 28 (.pointer (some ⟨X, 12, none⟩)) r.2).run Try.prog w2 = .ok () (setR w2 X 12 [r.2]) := store1 (P := Try.prog) (ty := 28) hbx (i := 12) (Nat.le_of_ble_eq_true rfl) sz_Moves (by rw [hv]; rfl) (by rw [hv]; rfl)
                          have h147 : b.eval (.tmp 147) = .pointer (some ⟨X, 12, none⟩) := hR.of (j := 9) (by decide) (by kernel_rfl)
                          have h145 : b.eval (.tmp 145) = r.2 := hR.of (j := 7) (by decide) (by kernel_rfl)
                          simp only [Act.eval, Array.getD_eq_getD_getElem?] at h147 h145
                          refine ⟨r, setR w2 X 12 [r.2], fun _ _ => rfl, ?_, ?_⟩
                          · show (execOp b.eval _).run _ _ = .ok .skip _
                            unfold execOp
                            simp [Act.eval, h147, h145, Sem.run_bind, hst]
                          · simp only [gd_eq (L := L) (i := 10) (by rw [hs]; decide), gd_ne (L := L) (i := 10) (j := 4) (by decide), gd_ne (L := L) (i := 10) (j := 5) (by decide), gd_ne (L := L) (i := 10) (j := 6) (by decide), gd_ne (L := L) (i := 10) (j := 7) (by decide)]
                            have hfx : Fr (fun q => q = X) w2 (setR w2 X 12 [r.2]) := Fr.setRX _ _ 12 _
                            have hPZ : ({ z with way := { f with k := k + 1 } :: rt } : Sr).path.length = PL := HPL.out
                            exact hW.store z7 fun _ => ⟨hA1.pushPath (m := m) (by rw [hPZ]; exact g1) g2 g3 (by rw [hPZ]; exact g4) g5 g6 rfl, hA2.trans (hA1.keepPush (.inr rfl) g5 hfx) hA3, Nat.le_trans hA3 (Nat.le_trans g5.size hfx.size)⟩)
                    · refine puts_as (ps := [(0, 138, .pointer (some ⟨X, 0, none⟩)), (1, 139, .pointer (some ⟨X, 0, none⟩)), (2, 140, .pointer (some ⟨X, 0, none⟩)), (3, 141, .pointer (some ⟨X, 12, none⟩)), (4, 142, .slice ap PL cp), (5, 143, .agg #[.int .i64 m.proc, .int .i64 m.edge, .int .i64 m.wth, .int .i64 m.wthE, .string m.dst, .int .i64 m.bad, .slice a1 n1 c1, .slice a2 n2 c2, .int .u64 (m.turns : Int)]), (6, 144, .slice (some ⟨r.1, 0, none⟩) 1 1), (7, 145, r.2), (8, 146, .pointer (some ⟨X, 0, none⟩)), (9, 147, .pointer (some ⟨X, 12, none⟩))]) rfl ?_
                      simp only [puts, Act.put, List.setIfInBounds_toArray, List.set_cons_zero, List.set_cons_succ]
                      replace hW9 := hW9.last
                      obtain ⟨h9, hk9, hz9⟩ := hW9
                      obtain ⟨lit, vp'⟩ := r
                      dsimp only at h9
                      have H9 := Lib.hid h9
                      have H49 := Lib.hid (H4U.out.of_eq (hk9 _ (.inr (.inl (.inr rfl))) H4U.out.lt))
                      have H39 := Lib.hid (H3U.out.of_eq (hk9 _ (.inr (.inl (.inl rfl))) H3U.out.lt))
                      have H159 := Lib.hid (H15U.out.of_eq (hk9 _ (.inr (.inr rfl)) H15U.out.lt))
                      have x5 := H159.out.cell 5
                      have x4 := H159.out.cell 4
                      simp only [List.getElem?_cons_zero, List.getElem?_cons_succ] at x5 x4
                      have HPN : Hid (({ z with way := { f with k := k + 1 } :: rt, path := z.path ++ [m] } : Sr).path.length = PL + 1) := by show (z.path ++ [m]).length = PL + 1; rw [List.length_append, HPL.out]; rfl
                      obtain ⟨mb', hmb'⟩ : ∃ b, m.bad = b := ⟨_, rfl⟩
                      obtain ⟨md, hmd⟩ : ∃ d, m.dst = d := ⟨_, rfl⟩
                      rw [hmb'] at x5
                      rw [hmd] at x4
                      have HMB := Lib.hid hmb'
                      have HMD := Lib.hid hmd
                      clear hW9 h9 hk9 hz9 HVU H4U H3U H15U HCMU hi0 hz0 hz1 hz2 hz3 hmb' hmd
                      by_cases hbd : mb' = 0
                      · have db : (mb' != 0) = false := by simpa using hbd
                        replace HSP := Lib.hid (HSP.out.trans (if_neg (by rw [HMB.out]; simpa using hbd)))
                        have htop := HI.out.top_mem HZW.out HMK.out
                        have HTP := Lib.hid htop
                        have hmds : md.size ≤ 1048576 := by
                          rw [← HMD.out]
                          exact HS.out.small.dsts _ (rch_small HS.out.small (HI.out.rch _ htop.2)) m htop.1
                        have HRD : Hid (Rch S md) := by show Rch S md; rw [← HMD.out]; exact .step (HI.out.rch _ htop.2) htop.1 (HMB.out.trans hbd)
                        have hstl : ({ z with way := { f with k := k + 1 } :: rt, path := z.path ++ [m] } : Sr).sts.length ≤ 1000000 := by have := HML.out; show z.sts.length ≤ 1000000; omega
                        clear htop hbd
                        by_cases hin : md ∈ z.sts
                        · have HPT := Lib.hid (put_oldS H9.out hstl hmds hin)
                          have hpt : putP o z.sts m.dst = .old := by unfold putP; rw [if_pos (by rw [HMD.out]; exact hin)]
                          have HST2 : Hid (Stp S o (allP S) y0 { z with way := { f with k := k + 1 } :: rt }) := HSTP.out.tail (by rw [HSP.out, hpt])
                          clear hpt hin
                          go_wp2_with (fail)
                          refine HPT.out.mono ?_
                          rintro e wv ⟨rfl, hbv⟩
                          have HVV := Lib.hid (H9.out.fresh hbv)
                          have H4V := Lib.hid (H49.out.belowAll hbv)
                          have H3V := Lib.hid (H39.out.belowAll hbv)
                          obtain ⟨fpv, p1, -⟩ := HVV.out.path
                          rw [HPN.out] at p1
                          obtain ⟨gp, cp', hvp, hgp1, hgp2, hcp1, hcp2, -, -⟩ := owns_some p1 (by omega)
                          subst hvp
                          obtain ⟨PN, hPN⟩ : ∃ n, PL + 1 = n := ⟨_, rfl⟩
                          have HPE := Lib.hid hPN
                          have c12 := HVV.out.box.cell 12
                          simp only [srC, List.getElem?_cons_zero, List.getElem?_cons_succ] at c12
                          have HBX := Lib.hid HVV.out.box
                          rw [hPN] at c12 hcp1
                          have hs1 : IntKind.i64.wrap ((PN : Int) - 1) = (PL : Int) := by rw [IntKind.wrap_i64]; omega
                          have hs2 : (0 : Int) ≤ (PL : Int) := by omega
                          have hs3 : (PL : Int) ≤ (cp' : Int) := by omega
                          have hs4 : PL ≤ cp' := by omega
                          clear hbv p1 hPN HPT x4 H9 H49 H39 H159
                          go_wp2_with (fail)
                          refine region_tail 14 (by kernel_rfl) (by kernel_rfl) ?_
                          simp only [List.take_succ_cons, List.take_zero, List.drop_succ_cons, List.drop_zero]
                          repeat still_step
                          refine wpStill_nil ?_
                          refine wpList_store1 rfl 28 _ _ rfl X 12 (.slice (some ⟨gp, 0, none⟩) PL cp') rfl rfl (Holds.drewS HBX.out) (Nat.le_of_ble_eq_true rfl) sz_Moves rfl rfl ?_
                          refine Named.mk (fun w31 hW31 => ?_)
                          obtain ⟨h31, k31⟩ := HVV.out.drew.popPath HPN.out hW31
                          have h31b : SrchV I .nilIface o b3 X Sb mb F P (fun k => (k = b3 ∨ k = b3 + 1) ∨ k = b15) (z.way.map (·.n)) (.slice (some ⟨g, 0, none⟩) (rt.length + 1) cw) (.slice (some ⟨gp, 0, none⟩) PL cp') w { z with way := { f with k := k + 1 } :: rt } w31 := by
                            have h := h31
                            simp only [List.dropLast_concat] at h
                            exact h
                          have HL1 := Lib.hid (h31b.locals (Q' := (fun k => k = b3 ∨ k = b3 + 1)) fun k hk => .inl hk)
                          have H431 := Lib.hid (H4V.out.of_eq (k31 _ (.inr (.inl (.inr rfl))) H4V.out.lt))
                          have H331 := Lib.hid (H3V.out.of_eq (k31 _ (.inr (.inl (.inl rfl))) H3V.out.lt))
                          clear hW31 h31 h31b k31 HVV H4V H3V HBX c12 hs1 hs2 hs3 hs4 hcp1 hcp2 hgp1 hgp2
                          go_wp2
                          go_roundg (N - (k + 1))
                          case measure => rw [HG2.out]; omega
                          case rel => exact ⟨{ z with way := { f with k := k + 1 } :: rt }, k + 1, F, P, _, by omega, HST2, rfl, by have h := HL1.out; rw [HZW.out] at h; exact h, H431, H331, rfl, HC⟩
                        · by_cases hf : o.states ≤ (z.sts.length : Int) ∨ o.bytes - totB z.sts < md.size
                          · obtain ⟨why, hw, hpt⟩ : ∃ why : Int, ((why = 104 ∧ o.states ≤ (z.sts.length : Int)) ∨ (why = 105 ∧ ¬ o.states ≤ (z.sts.length : Int) ∧ o.bytes - totB z.sts < md.size)) ∧ putP o z.sts m.dst = .full why := by
                              by_cases h1 : o.states ≤ (z.sts.length : Int)
                              · exact ⟨104, .inl ⟨rfl, h1⟩, by unfold putP; rw [if_neg (by rw [HMD.out]; exact hin), if_pos h1]⟩
                              · have h2 : o.bytes - totB z.sts < md.size := hf.resolve_left h1
                                exact ⟨105, .inr ⟨rfl, h1, h2⟩, by unfold putP; rw [if_neg (by rw [HMD.out]; exact hin), if_neg h1, if_pos (by rw [HMD.out]; exact h2)]⟩
                            have HPT := Lib.hid (put_fullS H9.out hstl hmds hin why hw)
                            have HSE : Hid (stepP S o (allP S) z = .inr (ended { z with way := { f with k := k } :: rt, path := [], limit := why })) := by show _ = _; rw [HSP.out, hpt]
                            clear hf hw hpt hin hmds
                            go_wp2_with (fail)
                            refine HPT.out.mono ?_
                            rintro e wv ⟨rfl, hkv, hvv⟩
                            have HVV := Lib.hid hvv
                            have H4V := Lib.hid (H49.out.of_eq (hkv _ (.inr (.inl (.inr rfl))) H49.out.lt))
                            have HBX := Lib.hid hvv.box
                            clear hkv hvv HPT x4 x5 H9 H49 H39 H159
                            go_wp2_with (refine wpList_store1 rfl 28 _ _ rfl X 12 (.slice none 0 0) rfl rfl HBX.out (Nat.le_of_ble_eq_true rfl) sz_Moves rfl rfl ?_)
                            refine Named.mk (fun w26 hW26 => ?_)
                            obtain ⟨h26, k26⟩ := HVV.out.nilPath hW26
                            have H26 := Lib.hid h26
                            have H426 := Lib.hid (H4V.out.of_eq (k26 _ (.inr (.inl (.inr rfl))) H4V.out.lt))
                            clear hW26 h26 k26 HVV H4V HBX
                            go_wp2_with (fail)
                            refine (endedFn H26.out).mono ?_
                            rintro e wt ⟨hbt, hzt, hkt, vt, rfl, vq, rfl, hvq⟩
                            obtain ⟨RR, hRR⟩ : ∃ r, ended { z with way := { f with k := k + 1 } :: rt, path := [], limit := why } = r := ⟨_, rfl⟩
                            rw [hRR] at hvq ⊢
                            have HEI : Hid (EndsIn S o (allP S) RR) := by show EndsIn S o (allP S) RR; rw [← hRR]; exact .inr ⟨y0, z, HY0.out, HSTP.out, HSE.out⟩
                            have HBT := Lib.hid hbt
                            have HVQ := Lib.hid hvq
                            have H4T := Lib.hid (H426.out.of_eq (hkt _ (.inr (.inl (.inr rfl))) H426.out.lt))
                            have HNB : Hid (b3 + 1 ≤ w26.heap.size) := Nat.le_of_lt H426.out.lt
                            have hone : ([.int .i64 RR.verdict, .int .i64 RR.why, vq, .int .i64 (-1), .int .i64 (RR.states : Int), .int .i64 (RR.moves : Int), .int .i64 (RR.deep : Int)] : List Value).all (·.oneCell') = true := by
                              have := hvq.one
                              simp [this]
                              simp [Value.oneCell']
                            clear hbt hzt hkt hvq hRR 
                            go_wp2_with (refine wpList_storeB rfl 30 _ _ rfl (b3 + 1) 0 [.int .i64 RR.verdict, .int .i64 RR.why, vq, .int .i64 (-1), .int .i64 (RR.states : Int), .int .i64 (RR.moves : Int), .int .i64 (RR.deep : Int)] rfl rfl H4T.out (Nat.le_of_ble_eq_true rfl) sz_Found hone ?_)
                            refine Named.mk (fun wz hWz => ?_)
                            have hz : Fr (fun q => q = b3 + 1) wt wz := by rw [hWz]; exact Fr.setRX _ _ 0 _
                            have HZ := Lib.hid (H4T.out.stored hWz (Nat.le_of_ble_eq_true rfl))
                            have HP := Lib.hid (run_end HB3.out HBT.out hz (Nat.le_succ _) HNB.out HNP.out HVQ.out HEI.out)
                            clear hWz hz HBT HVQ H4T HNB HEI hone
                            go_wp2
                            rw [Exit.noGoto_ret]
                            refine bodyPost_ret (outBox2 Try.results6 HZ.out rfl _ Try.underlying30 rfl sz_Found) rfl ?_
                            exact HP.out
                          · have h1 : ¬ o.states ≤ (z.sts.length : Int) := fun h => hf (.inl h)
                            have h2 : ¬ o.bytes - totB z.sts < md.size := fun h => hf (.inr h)
                            have HPT := Lib.hid (put_newS H9.out hstl hmds hin (show (z.sts.length : Int) < o.states by omega) (show (md.size : Int) ≤ o.bytes - totB z.sts by omega))
                            have hpt : putP o z.sts m.dst = .new := by unfold putP; rw [if_neg (by rw [HMD.out]; exact hin), if_neg h1, if_neg (by rw [HMD.out]; exact h2)]
                            replace HSP : Hid (stepP S o (allP S) z = enterP S o (allP S) { z with way := { f with k := k + 1 } :: rt, path := z.path ++ [m] } md) := by show _ = _; rw [HSP.out, hpt, HMD.out]
                            obtain ⟨l, hl⟩ : ∃ l, S.next md = l := ⟨_, rfl⟩
                            obtain ⟨bad, hbad⟩ : ∃ b, (o.ends && (l.isEmpty && !(S.look md).fin)) = b := ⟨_, rfl⟩
                            have HSE : Hid (stepP S o (allP S) z = if bad = true then .inr (viol (⟨z.sts ++ [md], z.cl ++ [l], ⟨z.sts.length, md, l, 0⟩ :: { f with k := k + 1 } :: rt, z.path ++ [m], z.limit, z.moves + l.length, max z.deep (z.path ++ [m]).length⟩ : Sr) 101) else .inl (⟨z.sts ++ [md], z.cl ++ [l], ⟨z.sts.length, md, l, 0⟩ :: { f with k := k + 1 } :: rt, z.path ++ [m], z.limit, z.moves + l.length, max z.deep (z.path ++ [m]).length⟩ : Sr)) := by
                              show _ = _
                              rw [HSP.out, ← hbad, ← hl]
                              rfl
                            obtain ⟨SN, hSN⟩ : ∃ n, z.sts.length = n := ⟨_, rfl⟩
                            have HSN := Lib.hid hSN
                            have HPT : Hid (Calls Try.prog 16 #[.pointer (some ⟨X, 0, none⟩), .string md] w9 fun e w' => e = .returned (.tuple #[.int .i64 (SN : Int), .bool true, .bool true]) ∧ Keep (fun k => P k ∨ ((k = b3 ∨ k = b3 + 1) ∨ k = b15)) w9 w' ∧ ∃ F', SrchV I .nilIface o b3 X Sb mb F' P (fun k => (k = b3 ∨ k = b3 + 1) ∨ k = b15) (z.way.map (·.n)) (.slice (some ⟨g, 0, none⟩) (rt.length + 1) cw) vp' w { z with sts := z.sts ++ [md], way := { f with k := k + 1 } :: rt, path := z.path ++ [m] } w') := by
                              have h := HPT.out
                              rw [hSN] at h
                              exact h
                            have HLN := Lib.hid hl
                            have hSNb : SN ≤ 999999 := by have := HML.out; omega
                            clear hf h1 h2 hpt hin hSN
                            go_wp2_with (fail)
                            refine HPT.out.mono ?_
                            rintro e wv ⟨rfl, hkv, F2, hvv⟩
                            have H4V := Lib.hid (H49.out.of_eq (hkv _ (.inr (.inl (.inr rfl))) H49.out.lt))
                            have H3V := Lib.hid (H39.out.of_eq (hkv _ (.inr (.inl (.inl rfl))) H39.out.lt))
                            have H15V := Lib.hid (H159.out.of_eq (hkv _ (.inr (.inr rfl)) H159.out.lt))
                            have v4 := H15V.out.cell 4
                            simp only [List.getElem?_cons_zero, List.getElem?_cons_succ] at v4
                            rw [HMD.out] at v4
                            have HEN := Lib.hid (enterFn (n := SN) hvv hb0 HS.out hmds (by omega) HOA.out (by have := HBD.out.1; show z.moves ≤ _; omega) (by have := HBD.out.2.1; show z.deep ≤ _; omega) (by show ({ z with way := { f with k := k + 1 } :: rt, path := z.path ++ [m] } : Sr).path.length ≤ 2000000; rw [HPN.out]; omega) (by
                              have h := HBD.out.2.2.2
                              rw [HZW.out] at h
                              have h : rt.length + 1 ≤ 999999 := h
                              show rt.length + 1 ≤ 1000000
                              omega))
                            have HZSZ := Lib.hid hvv.size
                            clear hkv hvv HPT x4 x5 H9 H49 H39 H159 hmds
                            go_wp2_with (fail)
                            refine HEN.out.mono ?_
                            rintro e wn ⟨rfl, P2, vw2, hP2, hkn, hzn, hn⟩
                            rw [HLN.out] at hn ⊢
                            rw [hbad]
                            have HVN := Lib.hid hn
                            have H4N := Lib.hid (H4V.out.of_eq (hkn _ (.inr (.inl (.inr rfl))) H4V.out.lt))
                            have H3N := Lib.hid (H3V.out.of_eq (hkn _ (.inr (.inl (.inl rfl))) H3V.out.lt))
                            clear hP2 hkn hzn hn HEN H4V H3V H15V v4 hbad
                            cases bad with
                            | true =>
                              replace HNP : Hid (¬ P2 (b3 + 1)) := HVN.out.lop _ (.inl (.inr rfl))
                              go_wp2_with (fail)
                              have HVF : Calls Try.prog 19 #[.pointer (some ⟨X, 0, none⟩), .int .i64 101] wn (TellPost b3 P2 (fun k => (k = b3 ∨ k = b3 + 1) ∨ k = b15) w wn (viol (⟨z.sts ++ [md], z.cl, ⟨SN, md, l, 0⟩ :: { f with k := k + 1 } :: rt, z.path ++ [m], z.limit, z.moves + l.length, max z.deep (z.path ++ [m]).length⟩ : Sr) 101)) := violFn HVN.out (by show ({ z with way := { f with k := k + 1 } :: rt, path := z.path ++ [m] } : Sr).path.length ≤ 2000000; rw [HPN.out]; omega)
                              refine HVF.mono ?_
                              rintro e wt ⟨hbt, hzt, hkt, vt, rfl, vq, rfl, hvq⟩
                              obtain ⟨RR, hRR⟩ : ∃ r, viol (⟨z.sts ++ [md], z.cl, ⟨SN, md, l, 0⟩ :: { f with k := k + 1 } :: rt, z.path ++ [m], z.limit, z.moves + l.length, max z.deep (z.path ++ [m]).length⟩ : Sr) 101 = r := ⟨_, rfl⟩
                              rw [hRR] at hvq ⊢
                              have HEI : Hid (EndsIn S o (allP S) RR) := by show EndsIn S o (allP S) RR; rw [← hRR, ← HSN.out]; exact .inr ⟨y0, z, HY0.out, HSTP.out, by rw [HSE.out]; rfl⟩
                              have HBT := Lib.hid hbt
                              have HVQ := Lib.hid hvq
                              have H4T := Lib.hid (H4N.out.of_eq (hkt _ (.inr (.inl (.inr rfl))) H4N.out.lt))
                              have HNB : Hid (b3 + 1 ≤ wn.heap.size) := Nat.le_of_lt H4N.out.lt
                              have hone : ([.int .i64 RR.verdict, .int .i64 RR.why, vq, .int .i64 (-1), .int .i64 (RR.states : Int), .int .i64 (RR.moves : Int), .int .i64 (RR.deep : Int)] : List Value).all (·.oneCell') = true := by
                                have := hvq.one
                                simp [this]
                                simp [Value.oneCell']
                              clear hbt hzt hkt hvq hRR 
                              go_wp2_with (refine wpList_storeB rfl 30 _ _ rfl (b3 + 1) 0 [.int .i64 RR.verdict, .int .i64 RR.why, vq, .int .i64 (-1), .int .i64 (RR.states : Int), .int .i64 (RR.moves : Int), .int .i64 (RR.deep : Int)] rfl rfl H4T.out (Nat.le_of_ble_eq_true rfl) sz_Found hone ?_)
                              refine Named.mk (fun wz hWz => ?_)
                              have hz : Fr (fun q => q = b3 + 1) wt wz := by rw [hWz]; exact Fr.setRX _ _ 0 _
                              have HZ := Lib.hid (H4T.out.stored hWz (Nat.le_of_ble_eq_true rfl))
                              have HP := Lib.hid (run_end HB3.out HBT.out hz (Nat.le_succ _) HNB.out HNP.out HVQ.out HEI.out)
                              clear hWz hz HBT HVQ H4T HNB HEI hone
                              go_wp2
                              rw [Exit.noGoto_ret]
                              refine bodyPost_ret (outBox2 Try.results6 HZ.out rfl _ Try.underlying30 rfl sz_Found) rfl ?_
                              exact HP.out
                            | false =>
                              have HST2 : Hid (Stp S o (allP S) y0 (⟨z.sts ++ [md], z.cl ++ [l], ⟨z.sts.length, md, l, 0⟩ :: { f with k := k + 1 } :: rt, z.path ++ [m], z.limit, z.moves + l.length, max z.deep (z.path ++ [m]).length⟩ : Sr)) := HSTP.out.tail (by rw [HSE.out]; rfl)
                              have HL1 : Hid (SrchV I .nilIface o b3 X Sb mb F2 P2 (fun k => k = b3 ∨ k = b3 + 1) ((⟨z.sts ++ [md], z.cl ++ [l], ⟨z.sts.length, md, l, 0⟩ :: { f with k := k + 1 } :: rt, z.path ++ [m], z.limit, z.moves + l.length, max z.deep (z.path ++ [m]).length⟩ : Sr).way.map (·.n)) vw2 vp' w (⟨z.sts ++ [md], z.cl ++ [l], ⟨z.sts.length, md, l, 0⟩ :: { f with k := k + 1 } :: rt, z.path ++ [m], z.limit, z.moves + l.length, max z.deep (z.path ++ [m]).length⟩ : Sr) wn) := by
                                have h := SrchV.recl (cl' := z.cl ++ [l]) (HVN.out.locals (Q' := (fun k => k = b3 ∨ k = b3 + 1)) fun k hk => .inl hk)
                                rw [HZW.out, ← HSN.out] at h
                                exact h
                              clear HVN
                              go_wp2
                              go_roundg (2 * (M + 1 - (SN + 1)) + (n5 + 1))
                              case measure =>
                                have h1 := HC.out
                                have h2 := HML.out
                                have h3 := HSN.out
                                rw [HGG.out]
                                omega
                              case rel =>
                                refine ⟨(⟨z.sts ++ [md], z.cl ++ [l], ⟨z.sts.length, md, l, 0⟩ :: { f with k := k + 1 } :: rt, z.path ++ [m], z.limit, z.moves + l.length, max z.deep (z.path ++ [m]).length⟩ : Sr), F2, P2, _, _, HST2, HL1, H4N, H3N, ?_⟩
                                show _ = _
                                simp only [List.length_append, List.length_cons, List.length_nil]
                                have h1 := HM5.out
                                have h2 := HN5.out
                                have h3 := HSN.out
                                omega
                      · have db : (mb' != 0) = true := by simpa using hbd
                        replace HSP := Lib.hid (HSP.out.trans (if_pos (by rw [HMB.out]; exact hbd)))
                        clear hbd
                        go_wp2_with (fail)
                        refine (violFn H9.out (by rw [HPN.out]; omega)).mono ?_
                        rintro e wt ⟨hbt, hzt, hkt, vt, rfl, vq, rfl, hvq⟩
                        obtain ⟨RR, hRR⟩ : ∃ r, viol { z with way := { f with k := k + 1 } :: rt, path := z.path ++ [m] } mb' = r := ⟨_, rfl⟩
                        rw [hRR] at hvq ⊢
                        have HEI : Hid (EndsIn S o (allP S) RR) := by show EndsIn S o (allP S) RR; rw [← hRR]; exact .inr ⟨y0, z, HY0.out, HSTP.out, by rw [HSP.out, HMB.out]; rfl⟩
                        have HBT := Lib.hid hbt
                        have HVQ := Lib.hid hvq
                        have H4T := Lib.hid (H49.out.of_eq (hkt _ (.inr (.inl (.inr rfl))) H49.out.lt))
                        have HNB : Hid (b3 + 1 ≤ w9.heap.size) := Nat.le_of_lt H49.out.lt
                        have hone : ([.int .i64 RR.verdict, .int .i64 RR.why, vq, .int .i64 (-1), .int .i64 (RR.states : Int), .int .i64 (RR.moves : Int), .int .i64 (RR.deep : Int)] : List Value).all (·.oneCell') = true := by
                          have := hvq.one
                          simp [this]
                          simp [Value.oneCell']
                        clear hbt hzt hkt hvq hRR x5 x4
                        go_wp2_with (refine wpList_storeB rfl 30 _ _ rfl (b3 + 1) 0 [.int .i64 RR.verdict, .int .i64 RR.why, vq, .int .i64 (-1), .int .i64 (RR.states : Int), .int .i64 (RR.moves : Int), .int .i64 (RR.deep : Int)] rfl rfl H4T.out (Nat.le_of_ble_eq_true rfl) sz_Found hone ?_)
                        refine Named.mk (fun wz hWz => ?_)
                        have hz : Fr (fun q => q = b3 + 1) wt wz := by rw [hWz]; exact Fr.setRX _ _ 0 _
                        have HZ := Lib.hid (H4T.out.stored hWz (Nat.le_of_ble_eq_true rfl))
                        have HP := Lib.hid (run_end HB3.out HBT.out hz (Nat.le_succ _) HNB.out HNP.out HVQ.out HEI.out)
                        clear hWz hz HBT HVQ H4T HNB HEI hone
                        go_wp2
                        rw [Exit.noGoto_ret]
                        refine bodyPost_ret (outBox2 Try.results6 HZ.out rfl _ Try.underlying30 rfl sz_Found) rfl ?_
                        exact HP.out
              · obtain rfl : k = N := by omega
                have hk' : ¬ (k : Int) < (k : Int) := by omega
                go_wp2_with (fail)
                go_quiet (fail)
                have hqb : Below wr.heap.size wr (wr.drewN nq) := below_drewN (Below.refl _ _) (Nat.le_refl _) nq
                have HVS := Lib.hid (HV.out.fresh hqb)
                have H4S := Lib.hid (H4.out.belowAll hqb)
                have H3S := Lib.hid (H3.out.belowAll hqb)
                have s0 := cell_up t0 hqb
                obtain ⟨ws, hws⟩ : ∃ W, wr.drewN nq = W := ⟨_, rfl⟩
                rw [hws] at HVS H4S H3S s0 ⊢
                have HSP : Hid (stepP S o (allP S) z = .inl { z with way := rt, path := z.path.dropLast }) := by
                  show _ = _
                  unfold stepP
                  rw [HZW.out]
                  dsimp only
                  rw [List.getElem?_eq_none (by rw [HN.out]; exact Nat.le_refl _)]
                have HST2 := Lib.hid (HSTP.out.tail HSP.out)
                have hfn : f.n < 1000001 := by
                  have h1 := (List.getElem?_eq_some_iff.1 (HI.out.frm { f with k := k } (by rw [HZW.out]; exact List.mem_cons_self)).1).1
                  have h1 : f.n < z.sts.length := h1
                  have := HML.out
                  omega
                have hnd : f.n ∉ rt.map (·.n) := by
                  have h := HI.out.wnd
                  rw [HZW.out, List.map_cons, List.nodup_cons] at h
                  exact h.1
                have HND := Lib.hid hnd
                have HVM : Hid (SrchV I .nilIface o b3 X Sb mb F P (fun k => k = b3 ∨ k = b3 + 1) (f.n :: rt.map (·.n)) (.slice (some ⟨g, 0, none⟩) (rt.length + 1) cw) vp w z ws) := by
                  have h := HVS.out
                  rw [HZW.out] at h
                  exact h
                have c10 := HVM.out.box.cell 10
                simp only [srC, List.getElem?_cons_zero, List.getElem?_cons_succ] at c10
                have HPLL : Hid (z.path.length = rt.length) := by
                  have h := HI.out.path_len
                  rw [HZW.out] at h
                  exact h
                clear hqb hws HV H4 H3 t0 t1 t2 tf HVS HMVS hnd hcl hk'
                go_wp2_with (fail)
                refine region_tail 8 (by kernel_rfl) (by kernel_rfl) ?_
                simp only [List.take_succ_cons, List.take_zero, List.drop_succ_cons, List.drop_zero]
                repeat still_step
                refine wpStill_nil ?_
                refine Mp.wpList_bdel _ rfl (.tmp 195) (.tmp 199) rfl rfl HVM.out.drew.on f.n rfl hfn (by omega) ?_
                intro w32 hm32 hg32
                rw [onP_del HND.out] at hm32
                have h32 := HVM.out.drew.mapped hm32 hg32
                have hk32 : Keep (fun k => P k ∨ (k = b3 ∨ k = b3 + 1)) ws w32 := fun k hk hs => hg32.block k hs fun e => (HVM.out.sep k hk).2.2.2.1 (Option.some.inj e)
                have H32 := Lib.hid h32
                have H432 := Lib.hid (H4S.out.of_eq (hk32 _ (.inr (.inr rfl)) H4S.out.lt))
                have H332 := Lib.hid (H3S.out.of_eq (hk32 _ (.inr (.inl rfl)) H3S.out.lt))
                have HBX := Lib.hid h32.box
                have c11 := h32.box.cell 11
                simp only [srC, List.getElem?_cons_zero, List.getElem?_cons_succ] at c11
                rw [HM5.out, HN5.out] at c11
                have hmn5 : (m5 : Int) ≤ (cw : Int) := by omega
                have hmn6 : m5 ≤ cw := by omega
                clear hm32 hg32 h32 hk32 HVM H4S H3S s0 c10 hfn
                go_wp2_with (fail)
                refine region_tail 14 (by kernel_rfl) (by kernel_rfl) ?_
                simp only [List.take_succ_cons, List.take_zero, List.drop_succ_cons, List.drop_zero]
                repeat still_step
                refine wpStill_nil ?_
                refine wpList_store1 rfl 62 _ _ rfl X 11 (.slice (some ⟨g, 0, none⟩) m5 cw) rfl rfl (Holds.drewS HBX.out) (Nat.le_of_ble_eq_true rfl) sz_Frames rfl rfl ?_
                refine Named.mk (fun w33 hW33 => ?_)
                obtain ⟨h33, k33⟩ := H32.out.drew.popWay HZW.out (w' := w33) (by rw [HM5.out]; exact hW33)
                obtain ⟨fp, p1, -⟩ := h33.path
                obtain ⟨ap, cp, hvp, hcp, -⟩ := owns_form p1
                replace hvp : vp = .slice ap m5 cp := by rw [hvp]; show Value.slice ap z.path.length cp = _; rw [HPLL.out, HM5.out]
                replace hcp : m5 ≤ cp := by have h : z.path.length ≤ cp := hcp; rw [HPLL.out, HM5.out] at h; exact h
                have H33 := Lib.hid h33
                have H433 := Lib.hid (H432.out.of_eq (k33 _ (.inr (.inr rfl)) H432.out.lt))
                have H333 := Lib.hid (H332.out.of_eq (k33 _ (.inr (.inl rfl)) H332.out.lt))
                have HP1 : Hid (w33.ownsRow b3 75 9 vp m5 fp) := by
                  have h : w33.ownsRow b3 75 9 vp z.path.length fp := p1
                  rw [HPLL.out, HM5.out] at h
                  exact h
                subst hvp
                have HBX2 := Lib.hid h33.box
                have c12 := h33.box.cell 12
                simp only [srC, List.getElem?_cons_zero, List.getElem?_cons_succ] at c12
                clear hW33 h33 k33 p1 H32 H432 H332 HBX c11
                by_cases hm0' : m5 = 0
                · have hmz : ¬ (0 : Int) < (m5 : Int) := by omega
                  have HL1 : Hid (SrchV I .nilIface o b3 X Sb mb F P (fun k => k = b3 ∨ k = b3 + 1) (rt.map (·.n)) (.slice (some ⟨g, 0, none⟩) m5 cw) (.slice ap m5 cp) w { z with way := rt, path := z.path.dropLast } w33) := by
                    have h := H33.out
                    have e : z.path.dropLast = z.path := by
                      have h0 : z.path = [] := List.length_eq_zero_iff.1 (by rw [HPLL.out, HM5.out]; exact hm0')
                      rw [h0]; rfl
                    show SrchV I .nilIface o b3 X Sb mb F P (fun k => k = b3 ∨ k = b3 + 1) (rt.map (·.n)) (.slice (some ⟨g, 0, none⟩) m5 cw) (.slice ap m5 cp) w { z with way := rt, path := z.path.dropLast } w33
                    rw [e]
                    rw [HM5.out] at h
                    exact h
                  clear hm0'
                  go_wp2
                  go_roundg (2 * (M + 1 - z.sts.length) + m5)
                  case measure =>
                    have h1 := HC.out
                    have h2 := HN5.out
                    rw [HGG.out]
                    omega
                  case rel => exact ⟨_, F, P, _, _, HST2, HL1, H433, H333, by show _ = 2 * (M + 1 - z.sts.length) + rt.length; rw [HM5.out]⟩
                · have hmz : (0 : Int) < (m5 : Int) := by omega
                  obtain ⟨gp, cp', hvp, hgp1, hgp2, hcp1, hcp2, -, -⟩ := owns_some HP1.out (by omega)
                  injection hvp with hvp _ hvp2
                  subst hvp hvp2
                  obtain ⟨m4, hm4⟩ : ∃ n, m5 = n + 1 := ⟨m5 - 1, by omega⟩
                  have hs1 : IntKind.i64.wrap ((m5 : Int) - 1) = (m4 : Int) := by rw [IntKind.wrap_i64]; omega
                  have hs2 : (0 : Int) ≤ (m4 : Int) := by omega
                  have hs3 : (m4 : Int) ≤ (cp : Int) := by omega
                  have hs4 : m4 ≤ cp := by omega
                  have HM4 := Lib.hid hm4
                  clear hm4
                  go_wp2_with (fail)
                  refine region_tail 14 (by kernel_rfl) (by kernel_rfl) ?_
                  simp only [List.take_succ_cons, List.take_zero, List.drop_succ_cons, List.drop_zero]
                  repeat still_step
                  refine wpStill_nil ?_
                  refine wpList_store1 rfl 28 _ _ rfl X 12 (.slice (some ⟨gp, 0, none⟩) m4 cp) rfl rfl (Holds.drewS HBX2.out) (Nat.le_of_ble_eq_true rfl) sz_Moves rfl rfl ?_
                  refine Named.mk (fun w35 hW35 => ?_)
                  have h33 := H33.out.drew
                  have hz1 : z.path.length = m4 + 1 := by rw [HPLL.out, HM5.out, HM4.out]
                  rw [HM4.out] at h33
                  obtain ⟨h35, k35⟩ := h33.popPath hz1 hW35
                  have HL1 : Hid (SrchV I .nilIface o b3 X Sb mb F P (fun k => k = b3 ∨ k = b3 + 1) (rt.map (·.n)) (.slice (some ⟨g, 0, none⟩) m5 cw) (.slice (some ⟨gp, 0, none⟩) m4 cp) w { z with way := rt, path := z.path.dropLast } w35) := by
                    have h := h35
                    show SrchV I .nilIface o b3 X Sb mb F P (fun k => k = b3 ∨ k = b3 + 1) (rt.map (·.n)) (.slice (some ⟨g, 0, none⟩) m5 cw) (.slice (some ⟨gp, 0, none⟩) m4 cp) w { z with way := rt, path := z.path.dropLast } w35
                    rw [HM5.out] at h
                    exact h
                  have H435 := Lib.hid (H433.out.of_eq (k35 _ (.inr (.inr rfl)) H433.out.lt))
                  have H335 := Lib.hid (H333.out.of_eq (k35 _ (.inr (.inl rfl)) H333.out.lt))
                  clear hW35 h33 h35 k35 hz1 H33 H433 H333 HBX2 c12 HP1
                  go_wp2
                  go_roundg (2 * (M + 1 - z.sts.length) + m5)
                  case measure =>
                    have h1 := HC.out
                    have h2 := HN5.out
                    rw [HGG.out]
                    omega
                  case rel => exact ⟨_, F, P, _, _, HST2, HL1, H435, H335, by show _ = 2 * (M + 1 - z.sts.length) + rt.length; rw [HM5.out]⟩
end Go.Proofs.Ytpednhcfkjjcpaa.G
