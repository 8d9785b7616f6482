/- The walk of the search's ended. -/
import Derived.Test.YtpednhcfkjjcpaaMg12
namespace Go.Proofs.Ytpednhcfkjjcpaa.G
open Go.RowKit Go.Maps
set_option linter.unusedVariables false
set_option linter.unusedSimpArgs false

section
variable {I : Ifc} {vm : Value} {o : POpt} {b0 X Sb mb : Nat} {F P Q : Nat → Prop} {L : List Nat} {vw vp : Value} {w0 w w' : World} {x : Sr}
theorem ended_end {w1 w8 : World} {b4 N : Nat} {vd wy : Int} (hf : Fr (fun q => q = X ∨ q = b4) w1 w8) (hw1 : Below b0 w0 w1 ∧ w1.heap.size = b4 + 1 ∧ b0 ≤ b4) (hxl : X < b4) (hb4 : w.heap.size = b4) (hlo : b0 ≤ X) (hsep : ∀ k, P k ∨ Q k → k < w.heap.size ∧ ¬ F k ∧ k ≠ X ∧ k ≠ mb ∧ vw.ownBlock ≠ some k ∧ vp.ownBlock ≠ some k) (hk1 : Keep (fun k => P k ∨ Q k) w w1) (he : ended x = ⟨vd, wy, [], N, x.moves, x.deep⟩) :
    TellPost b0 P Q w0 w (ended x) (.returned (.agg #[.int .i64 vd, .int .i64 wy, .slice none 0 0, .int .i64 (-1), .int .i64 (N : Int), .int .i64 (x.moves : Int), .int .i64 (x.deep : Int)])) w8 := by
  obtain ⟨q1, q2, q3⟩ := hw1
  have hs := hf.size
  rw [he]
  refine ⟨q1.trans (hf.to_below (by omega) fun k hk e => ?_), by omega, hk1.trans (fun k hk hs => hf.block k hs fun e => ?_) (by omega), _, rfl, _, rfl, MvsV.nil _ _⟩
  · rcases e with e | e
    · omega
    · omega
  · have h1 := hsep k hk
    rcases e with e | e
    · exact h1.2.2.1 e
    · omega
set_option maxHeartbeats 4000000 in
set_option maxRecDepth 100000 in
theorem endedFn (h : SrchV I vm o b0 X Sb mb F P Q L vw vp w0 x w) : Calls Try.prog 17 #[.pointer (some ⟨X, 0, none⟩)] w (TellPost b0 P Q w0 w (ended x)) := by
  obtain ⟨w1, hw1⟩ : ∃ W, W = w.alloc (.cells #[.int .i64 0, .int .i64 0, .slice none 0 0, .int .i64 0, .int .i64 0, .int .i64 0, .int .i64 0] 30) := ⟨_, rfl⟩
  have hb1 : Below w.heap.size w w1 := by rw [hw1]; exact (Below.refl _ _).alloc (Nat.le_refl _) _
  have sz1 : w1.heap.size = w.heap.size + 1 := by rw [hw1]; simp
  have h4 : Holds w1 w.heap.size 30 [.int .i64 0, .int .i64 0, .slice none 0 0, .int .i64 0, .int .i64 0, .int .i64 0, .int .i64 0] := by rw [hw1]; exact Holds.new w 30 #[.int .i64 0, .int .i64 0, .slice none 0 0, .int .i64 0, .int .i64 0, .int .i64 0, .int .i64 0]
  have h1 := h.fresh hb1
  obtain ⟨N, hN⟩ : ∃ N, x.sts.length = N := ⟨_, rfl⟩
  have HLEN := Lib.hid (St.len_at h1.met)
  rw [hN] at HLEN
  have c9 := h1.box.cell 9
  simp only [srC, List.getElem?_cons_zero, List.getElem?_cons_succ] at c9
  have HB := Lib.hid h1.box
  have H4 := Lib.hid h4
  have HW1 : Hid (Below b0 w0 w1 ∧ w1.heap.size = w.heap.size + 1 ∧ b0 ≤ w.heap.size) := ⟨h1.below, sz1, h.size⟩
  have HSEP := Lib.hid h.sep
  have HXL : Hid (X < w.heap.size) := h.box.lt
  have HLO := Lib.hid h.lo.1
  have HK1 : Hid (Keep (fun k => P k ∨ Q k) w w1) := Keep.below hb1
  have HW := Lib.hid hw1
  have HN := Lib.hid hN
  clear h hb1 sz1 h4 h1 hw1 hN
  go_enter Try.func17, Try.ntmps17
  go_upto_region 1 with (fail)
  rw [← HW.out]
  clear HW
  obtain ⟨b4, hb4⟩ : ∃ b, w.heap.size = b := ⟨_, rfl⟩
  have HB4 := Lib.hid hb4
  rw [hb4] at H4 HW1 HXL ⊢
  clear hb4
  go_wp2_with (fail)
  refine HLEN.out.mono ?_
  rintro e w2 ⟨rfl, rfl⟩
  clear c9 HLEN
  go_wp2_with (refine wpList_store1 rfl 3 _ _ rfl X 18 (.int .i64 (N : Int)) rfl rfl HB.out (Nat.le_of_ble_eq_true rfl) sz_Int rfl rfl ?_)
  refine Named.mk (fun w3 hW3 => ?_)
  have HB3 := Lib.hid (HB.out.stored hW3 (Nat.le_of_ble_eq_true rfl))
  have hf3 : Fr (fun q => q = X) w1 w3 := by rw [hW3]; exact Fr.setRX _ _ 18 _
  clear hW3 HB
  go_wp2_with (refine wpList_store1 rfl 3 _ _ rfl X 14 (.int .i64 1) rfl rfl HB3.out (Nat.le_of_ble_eq_true rfl) sz_Int rfl rfl ?_)
  refine Named.mk (fun w4 hW4 => ?_)
  have HBY := Lib.hid (HB3.out.stored hW4 (Nat.le_of_ble_eq_true rfl))
  have hf4 : Fr (fun q => q = X) w1 w4 := hf3.trans (by rw [hW4]; exact Fr.setRX _ _ 14 _) fun _ _ h => h
  have HFY := Lib.hid hf4
  clear hW4 hf3 HB3 hf4
  have c13 := HBY.out.cell 13
  simp only [srC, List.take_succ_cons, List.take_zero, List.drop_succ_cons, List.drop_zero, List.cons_append, List.nil_append, List.getElem?_cons_zero, List.getElem?_cons_succ] at c13
  obtain ⟨lim, hlim⟩ : ∃ l, x.limit = l := ⟨_, rfl⟩
  have HLM := Lib.hid hlim
  rw [hlim] at c13
  by_cases h0 : lim = 0
  · have d0 : (lim != 0) = false := by simpa using h0
    have HE : Hid (ended x = ⟨1, 0, [], N, x.moves, x.deep⟩) := by
      show _ = _
      unfold ended
      rw [if_pos (HLM.out.trans h0), HN.out]
    have HBZ := HBY
    have HFZ := HFY
    clear h0 hlim HBY HFY
    have HRG := Lib.hid (HBZ.out.range (i := 14) (n := 7) (xs := [.int .i64 1, .int .i64 0, .slice none 0 0, .int .i64 (-1), .int .i64 (N : Int), .int .i64 (x.moves : Int), .int .i64 (x.deep : Int)]) rfl)
    have H47 := Lib.hid (HFZ.out.holds H4.out (by have := HXL.out; omega))
    clear HBZ H4
    go_wp2_with (first | (refine wpList_load_mid rfl 30 _ rfl X 14 rfl [.int .i64 1, .int .i64 0, .slice none 0 0, .int .i64 (-1), .int .i64 (N : Int), .int .i64 (x.moves : Int), .int .i64 (x.deep : Int)] _ HRG.out Try.underlying30 rfl sz_Found ?_) | (refine wpList_storeB rfl 30 _ _ rfl b4 0 [.int .i64 1, .int .i64 0, .slice none 0 0, .int .i64 (-1), .int .i64 (N : Int), .int .i64 (x.moves : Int), .int .i64 (x.deep : Int)] rfl rfl H47.out (Nat.le_of_ble_eq_true rfl) sz_Found rfl ?_))
    refine Named.mk (fun w8 hW8 => ?_)
    have HB8 := Lib.hid (H47.out.stored hW8 (Nat.le_of_ble_eq_true rfl))
    have hf8 : Fr (fun q => q = X ∨ q = b4) w1 w8 := (HFZ.out.mono fun _ _ h => .inl h).trans (by rw [hW8]; exact Fr.setRX _ _ 0 _) fun _ _ h => .inr h
    have HF8 := Lib.hid hf8
    clear hW8 hf8 HRG H47 HFZ
    go_wp2
    refine bodyPost_ret (outBox Try.results17 HB8.out rfl _ Try.underlying30 rfl sz_Found) rfl ?_
    exact ended_end HF8.out HW1.out HXL.out HB4.out HLO.out HSEP.out HK1.out HE.out
  · have d0 : (lim != 0) = true := by simpa using h0
    have HE : Hid (ended x = ⟨3, lim, [], N, x.moves, x.deep⟩) := by
      show _ = _
      unfold ended
      rw [if_neg (by rw [HLM.out]; exact h0), HN.out, HLM.out]
    clear h0 hlim
    go_wp2_with (refine wpList_store1 rfl 3 _ _ rfl X 14 (.int .i64 3) rfl rfl HBY.out (Nat.le_of_ble_eq_true rfl) sz_Int rfl rfl ?_)
    refine Named.mk (fun w5 hW5 => ?_)
    have HB5 := Lib.hid (HBY.out.stored hW5 (Nat.le_of_ble_eq_true rfl))
    have hf5 : Fr (fun q => q = X) w1 w5 := HFY.out.trans (by rw [hW5]; exact Fr.setRX _ _ 14 _) fun _ _ h => h
    clear hW5 HBY c13
    go_wp2_with (refine wpList_store1 rfl 3 _ _ rfl X 15 (.int .i64 lim) rfl rfl HB5.out (Nat.le_of_ble_eq_true rfl) sz_Int rfl rfl ?_)
    refine Named.mk (fun w6 hW6 => ?_)
    have HBZ := Lib.hid (HB5.out.stored hW6 (Nat.le_of_ble_eq_true rfl))
    have HFZ : Hid (Fr (fun q => q = X) w1 w6) := hf5.trans (by rw [hW6]; exact Fr.setRX _ _ 15 _) fun _ _ h => h
    clear hW6 hf5 HB5 HFY
    have HRG := Lib.hid (HBZ.out.range (i := 14) (n := 7) (xs := [.int .i64 3, .int .i64 lim, .slice none 0 0, .int .i64 (-1), .int .i64 (N : Int), .int .i64 (x.moves : Int), .int .i64 (x.deep : Int)]) rfl)
    have H47 := Lib.hid (HFZ.out.holds H4.out (by have := HXL.out; omega))
    clear HBZ H4
    go_wp2_with (first | (refine wpList_load_mid rfl 30 _ rfl X 14 rfl [.int .i64 3, .int .i64 lim, .slice none 0 0, .int .i64 (-1), .int .i64 (N : Int), .int .i64 (x.moves : Int), .int .i64 (x.deep : Int)] _ HRG.out Try.underlying30 rfl sz_Found ?_) | (refine wpList_storeB rfl 30 _ _ rfl b4 0 [.int .i64 3, .int .i64 lim, .slice none 0 0, .int .i64 (-1), .int .i64 (N : Int), .int .i64 (x.moves : Int), .int .i64 (x.deep : Int)] rfl rfl H47.out (Nat.le_of_ble_eq_true rfl) sz_Found rfl ?_))
    refine Named.mk (fun w8 hW8 => ?_)
    have HB8 := Lib.hid (H47.out.stored hW8 (Nat.le_of_ble_eq_true rfl))
    have hf8 : Fr (fun q => q = X ∨ q = b4) w1 w8 := (HFZ.out.mono fun _ _ h => .inl h).trans (by rw [hW8]; exact Fr.setRX _ _ 0 _) fun _ _ h => .inr h
    have HF8 := Lib.hid hf8
    clear hW8 hf8 HRG H47 HFZ
    go_wp2
    refine bodyPost_ret (outBox Try.results17 HB8.out rfl _ Try.underlying30 rfl sz_Found) rfl ?_
    exact ended_end HF8.out HW1.out HXL.out HB4.out HLO.out HSEP.out HK1.out HE.out
end
end Go.Proofs.Ytpednhcfkjjcpaa.G
