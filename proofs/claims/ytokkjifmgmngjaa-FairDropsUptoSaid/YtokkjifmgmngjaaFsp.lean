/- The walks of fair.Split, joined, moves, copies.state (printed by mkfsp.py out of fsp.txt). -/
import Derived.Test.YtokkjifmgmngjaaMvs
import Derived.Test.YtokkjifmgmngjaaNums
import Derived.Test.YtokkjifmgmngjaaMg1
namespace Go.Proofs.Ytokkjifmgmngjaa.G
open Go.RowKit Go.Maps
set_option linter.unusedVariables false
set_option linter.unusedSimpArgs false

def splitP (s : ByteArray) : Option (Nat × ByteArray) := match dec s.data.toList with
  | .ok n k => if 4611686018427387904 < n then none else some (n, s.extract k s.size)
  | _ => none
theorem rdAt {w : World} {B i : Nat} {s : ByteArray} (h : RdV w B s i) : Calls Try.prog 20 #[.pointer (some ⟨B, 0, none⟩)] w fun e w' => e = .returned (.int .i64 (i : Int)) ∧ Below w.heap.size w w' := by
  have e1 := h.cell 1
  simp only [List.getElem?_cons_zero, List.getElem?_cons_succ] at e1
  clear h
  go_enter Try.func20, Try.ntmps20
  go_wp2
  go_ret
  exact ⟨rfl, Below.refl _ _⟩
def SplitPost (s : ByteArray) (w : World) (e : Ending) (w' : World) : Prop := Below w.heap.size w w' ∧ e = .returned (match splitP s with
  | some (n, x) => .tuple #[.int .i64 (n : Int), .string x, .bool true]
  | none => .tuple #[.int .i64 0, .string ⟨#[]⟩, .bool false])
set_option maxHeartbeats 1000000 in
set_option maxRecDepth 100000 in
theorem splitFn {w : World} {s : ByteArray} (hs : s.size ≤ 1048576) : Calls Try.prog 8 #[.string s] w (SplitPost s w) := by
  obtain ⟨w1, hw1⟩ : ∃ W, W = w.alloc (.cells #[.string s, .int .i64 0] 85) := ⟨_, rfl⟩
  have hb1 : Below w.heap.size w w1 := by rw [hw1]; exact (Below.refl _ _).alloc (Nat.le_refl _) _
  have hrd : RdV w1 w.heap.size s 0 := by rw [hw1]; exact Holds.new w 85 #[.string s, .int .i64 0]
  obtain ⟨B, hB⟩ : ∃ b, w.heap.size = b := ⟨_, rfl⟩
  have HBB : Hid (w.heap.size = B) := hB
  rw [hB] at hrd
  have HU := Lib.hid (rdUint hrd (Nat.zero_le _) hs)
  rw [List.drop_zero] at HU
  have HB1 := Lib.hid hb1
  have HW1 := Lib.hid hw1
  have HS := Lib.hid hs
  obtain ⟨r, hr⟩ : ∃ r, splitP s = r := ⟨_, rfl⟩
  have HR := Lib.hid hr
  unfold SplitPost
  rw [hr]
  clear hb1 hrd hw1 hr hs
  go_enter Try.func8, Try.ntmps8
  go_wp2_with (fail)
  refine (readFn s w).mono ?_
  rintro e w1' ⟨rfl, rfl⟩
  rw [← HW1.out, hB]
  clear hB HW1
  go_wp2_with (fail)
  refine HU.out.mono ?_
  rintro e w2_ ⟨hf2, hp⟩
  have HB2 : Hid (Below w.heap.size w w2_) := HB1.out.trans (hf2.to_below HB1.out.size fun q hq e => by have := HBB.out; have e : q = B := e; omega)
  clear hf2 HU
  cases hd : dec s.data.toList with
  | cut =>
    rw [hd] at hp
    obtain ⟨rfl, _⟩ := hp
    have hz : r = none := by rw [← HR.out]; unfold splitP; rw [hd]
    subst hz
    clear hd
    go_wp2
    go_ret3
    exact ⟨HB2.out, rfl⟩
  | form =>
    rw [hd] at hp
    obtain ⟨rfl, _⟩ := hp
    have hz : r = none := by rw [← HR.out]; unfold splitP; rw [hd]
    subst hz
    clear hd
    go_wp2
    go_ret3
    exact ⟨HB2.out, rfl⟩
  | ok n k =>
    rw [hd] at hp
    obtain ⟨rfl, hrd2⟩ := hp
    rw [Nat.zero_add] at hrd2
    obtain ⟨hkp, hkl, _⟩ := dec_pos hd
    have hks : k ≤ s.size := by have : s.data.toList.length = s.size := by simp
                                omega
    have HRD := Lib.hid hrd2
    clear hrd2 hkl
    by_cases hn : 4611686018427387904 < n
    · have hz : r = none := by rw [← HR.out]; unfold splitP; rw [hd]; simp only; rw [if_pos hn]
      subst hz
      have hn2 : (4611686018427387904 : Int) < (n : Int) := by omega
      clear hd hn
      go_wp2
      go_ret3
      exact ⟨HB2.out, rfl⟩
    have hz : r = some (n, s.extract k s.size) := by rw [← HR.out]; unfold splitP; rw [hd]; simp only; rw [if_neg hn]
    subst hz
    have hn2 : ¬ (4611686018427387904 : Int) < (n : Int) := by omega
    have hwn : IntKind.i64.wrap (n : Int) = (n : Int) := by rw [IntKind.wrap_i64]; omega
    have hk0 : (0 : Int) ≤ (k : Int) := by omega
    have hk1 : (k : Int) ≤ (s.size : Int) := by omega
    have hkw : k ≤ s.size := hks
    clear hd hn
    go_wp2
    refine wp_region_rho (fun (r : Unit) j => ([(.int .u64 (n : Int)), (.int .i64 (n : Int)), (.string s), (.pointer (some ⟨B, 0, none⟩)), (.int .i64 (k : Int)), (.string (s.extract k s.size)), (.int .i64 (n : Int)), (.string (s.extract k s.size)), (.bool true)] : List Value).getD j undef) (fun _ L w2 => Below w2_.heap.size w2_ w2) [(0, 21), (1, 22), (2, 23), (3, 24), (4, 25), (5, 26), (6, 2), (7, 3), (8, 4)] 27 rfl (by kernel_rfl) (by kernel_rfl) (by kernel_rfl) () (Below.refl _ _).drew (fun i hi => ?_) (fun r w9 hW9 => ?_)
    · have hi2 : i < 9 := hi
      clear hi
      have hi3 : i = 0 ∨ i = 1 ∨ i = 2 ∨ i = 3 ∨ i = 4 ∨ i = 5 ∨ i = 6 ∨ i = 7 ∨ i = 8 := by omega
      clear hi2
      rcases hi3 with rfl | rfl | rfl | rfl | rfl | rfl | rfl | rfl | rfl
      · exact RhoOp.pure rfl (fun r L b w2 hl hR hW => by
          have h6 : b.eval (.tmp 6) = .int .u64 (n : Int) := (hR.old (by decide) (by kernel_rfl)).trans rfl
          simp only [Act.eval, Array.getD_eq_getD_getElem?] at h6
          show (execOp b.eval _).run _ _ = .ok (.value (.int .u64 (n : Int))) _
          unfold execOp
          simp [go_sem, h6]) (fun _ _ _ _ h => h)
      · exact RhoOp.pure rfl (fun r L b w2 hl hR hW => by
          have h21 : b.eval (.tmp 21) = .int .u64 (n : Int) := hR.of (j := 0) (by decide) (by kernel_rfl)
          simp only [Act.eval, Array.getD_eq_getD_getElem?] at h21
          show (execOp b.eval _).run _ _ = .ok (.value (.int .i64 (n : Int))) _
          unfold execOp
          simp [go_sem, h21, hwn]) (fun _ _ _ _ h => h)
      · exact RhoOp.pure rfl (fun r L b w2 hl hR hW => by
          have h0 : b.eval (.tmp 0) = .string s := (hR.old (by decide) (by kernel_rfl)).trans rfl
          simp only [Act.eval, Array.getD_eq_getD_getElem?] at h0
          show (execOp b.eval _).run _ _ = .ok (.value (.string s)) _
          unfold execOp
          simp [go_sem, h0]) (fun _ _ _ _ h => h)
      · exact RhoOp.pure rfl (fun r L b w2 hl hR hW => by
          have h5 : b.eval (.tmp 5) = .pointer (some ⟨B, 0, none⟩) := (hR.old (by decide) (by kernel_rfl)).trans rfl
          simp only [Act.eval, Array.getD_eq_getD_getElem?] at h5
          show (execOp b.eval _).run _ _ = .ok (.value (.pointer (some ⟨B, 0, none⟩))) _
          unfold execOp
          simp [go_sem, h5]) (fun _ _ _ _ h => h)
      · exact RhoOp.call (f := 20) rfl (fun r L b w2 hs hl hR hW => by
          have h24 : b.eval (.tmp 24) = .pointer (some ⟨B, 0, none⟩) := hR.of (j := 3) (by decide) (by kernel_rfl)
          simp only [Act.eval, Array.getD_eq_getD_getElem?] at h24
          refine ⟨#[.pointer (some ⟨B, 0, none⟩)], ?_, ?_⟩
          · unfold execOp
            simp [go_sem, h24]
          · refine (rdAt (HRD.out.belowAll hW)).mono fun e w4 h => ?_
            exact ⟨(), fun _ _ => rfl, h.1, hW.trans (h.2.mono hW.size)⟩)
      · exact RhoOp.pure rfl (fun r L b w2 hl hR hW => by
          have h23 : b.eval (.tmp 23) = .string s := hR.of (j := 2) (by decide) (by kernel_rfl)
          have h25 : b.eval (.tmp 25) = .int .i64 (k : Int) := hR.of (j := 4) (by decide) (by kernel_rfl)
          simp only [Act.eval, Array.getD_eq_getD_getElem?] at h23 h25
          show (execOp b.eval _).run _ _ = .ok (.value (.string (s.extract k s.size))) _
          unfold execOp
          simp [go_sem, h23, h25, hk0, hk1, hkw]) (fun _ _ _ _ h => h)
      · exact RhoOp.pure rfl (fun r L b w2 hl hR hW => by
          have h22 : b.eval (.tmp 22) = .int .i64 (n : Int) := hR.of (j := 1) (by decide) (by kernel_rfl)
          simp only [Act.eval, Array.getD_eq_getD_getElem?] at h22
          show (execOp b.eval _).run _ _ = .ok (.value (.int .i64 (n : Int))) _
          unfold execOp
          simp [go_sem, h22]) (fun _ _ _ _ h => h)
      · exact RhoOp.pure rfl (fun r L b w2 hl hR hW => by
          have h26 : b.eval (.tmp 26) = .string (s.extract k s.size) := hR.of (j := 5) (by decide) (by kernel_rfl)
          simp only [Act.eval, Array.getD_eq_getD_getElem?] at h26
          show (execOp b.eval _).run _ _ = .ok (.value (.string (s.extract k s.size))) _
          unfold execOp
          simp [go_sem, h26]) (fun _ _ _ _ h => h)
      · exact RhoOp.pure rfl (fun r L b w2 hl hR hW => by
          show (execOp b.eval _).run _ _ = .ok (.value (.bool true)) _
          unfold execOp
          simp [go_sem, ]) (fun _ _ _ _ h => h)
    · refine puts_as (ps := [(0, 21, .int .u64 (n : Int)), (1, 22, .int .i64 (n : Int)), (2, 23, .string s), (3, 24, .pointer (some ⟨B, 0, none⟩)), (4, 25, .int .i64 (k : Int)), (5, 26, .string (s.extract k s.size)), (6, 2, .int .i64 (n : Int)), (7, 3, .string (s.extract k s.size)), (8, 4, .bool true)]) rfl ?_
      simp only [puts, Act.put, List.setIfInBounds_toArray, List.set_cons_zero, List.set_cons_succ]
      have HB9 : Hid (Below w.heap.size w w9) := HB2.out.trans (hW9.mono HB2.out.size)
      clear hW9 HRD
      go_wp2
      go_ret3
      exact ⟨HB9.out, rfl⟩
end Go.Proofs.Ytokkjifmgmngjaa.G
