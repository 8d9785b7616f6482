/- The walk of chapter 17's two: two processes that set an object each. -/
import Derived.Test.YtcopoaaofjeklaaTof
namespace Go.Proofs.Ytcopoaaofjeklaa.G
open Go.RowKit Go.Maps
set_option linter.unusedVariables false
set_option linter.unusedSimpArgs false

def oneN (o : Int) : List TNode := [⟨[⟨1, false, 0, 0, true, o, 1, 0⟩], false, false, false⟩, ⟨[], false, false, false⟩]
def twoT : PThr := ⟨[0, 0], [oneN 0, oneN 1], [⟨0, 1⟩, ⟨1, 1⟩]⟩
theorem sz_thr : (Try.prog.info? 31).map (·.size) = some 3 := by kernel_rfl
theorem sz_bool1 : (Try.prog.info? 4).map (·.size) = some 1 := by kernel_rfl
def SetPost (o : Int) (w : World) (e : Ending) (w' : World) : Prop := Below w.heap.size w w' ∧ ∃ ga gn, w.heap.size ≤ ga ∧ w.heap.size ≤ gn ∧ e = .returned (.slice (some ⟨gn, 0, none⟩) 2 2) ∧ Holds w' ga 64 [.int .i64 1, .bool false, .int .i64 0, .int .i64 0, .bool true, .int .i64 o, .int .i64 1, .int .i64 0] ∧ Holds w' gn 61 [.slice (some ⟨ga, 0, none⟩) 1 1, .bool false, .bool false, .bool false, .slice none 0 0, .bool true, .bool false, .bool false]
set_option maxHeartbeats 1000000 in
theorem setFn (o : Int) (w : World) : Calls Try.prog 23 #[.int .i64 o] w (SetPost o w) := by
  have HF : Hid (SetPost o w (.returned (.slice (some ⟨w.heap.size + 1, 0, none⟩) 2 2)) ((w.alloc (.cells #[.int .i64 1, .bool false, .int .i64 0, .int .i64 0, .bool true, .int .i64 o, .int .i64 1, .int .i64 0] 64)).alloc (.cells #[.slice (some ⟨w.heap.size, 0, none⟩) 1 1, .bool false, .bool false, .bool false, .slice none 0 0, .bool true, .bool false, .bool false] 61))) := by
    refine ⟨((Below.refl _ _).alloc (Nat.le_refl _) _).alloc (by simp) _, w.heap.size, w.heap.size + 1, Nat.le_refl _, by omega, rfl, (Holds.new w 64 #[.int .i64 1, .bool false, .int .i64 0, .int .i64 0, .bool true, .int .i64 o, .int .i64 1, .int .i64 0]).alloc _, ?_⟩
    have h := Holds.new (w.alloc (.cells #[.int .i64 1, .bool false, .int .i64 0, .int .i64 0, .bool true, .int .i64 o, .int .i64 1, .int .i64 0] 64)) 61 #[.slice (some ⟨w.heap.size, 0, none⟩) 1 1, .bool false, .bool false, .bool false, .slice none 0 0, .bool true, .bool false, .bool false]
    simp only [World.size_alloc] at h
    exact h
  go_enter Try.func23, Try.ntmps23
  go_wp2
  go_ret
  exact HF.out
def Two17 (w : World) (e : Ending) (w' : World) : Prop := Below w.heap.size w w' ∧ ∃ vi vp vq, e = .returned (.agg #[vi, vp, vq]) ∧ ThrV (From w.heap.size) w' vi vp vq twoT
theorem nodes_row {P : Nat → Prop} {w : World} {ga gn : Nat} {o : Int} (h1 : Holds w ga 64 [.int .i64 1, .bool false, .int .i64 0, .int .i64 0, .bool true, .int .i64 o, .int .i64 1, .int .i64 0]) (h2 : Holds w gn 61 [.slice (some ⟨ga, 0, none⟩) 1 1, .bool false, .bool false, .bool false, .slice none 0 0, .bool false, .bool false, .bool false]) (ha : P ga) (hn : P gn) :
    TProcF P w (oneN o) [.slice (some ⟨gn, 0, none⟩) 2 2] := by
  refine ⟨_, _, rfl, RowL.of_holds (n := 2) h2 hn (by omega) rfl, ?_⟩
  refine ⟨[.slice (some ⟨ga, 0, none⟩) 1 1, .bool false, .bool false, .bool false], [.slice none 0 0, .bool false, .bool false, .bool false], rfl, ⟨_, _, rfl, RowL.of_holds (n := 1) h1 ha (by omega) rfl, ?_⟩, ?_⟩
  · exact ⟨_, [], (List.append_nil _).symm, rfl, rfl⟩
  · exact ⟨_, [], (List.append_nil _).symm, ⟨_, [], rfl, RowL.nil _ _ _, rfl⟩, rfl⟩
set_option maxHeartbeats 1000000 in
set_option maxRecDepth 100000 in
theorem two17Fn (w : World) : Calls Try.prog 13 #[] w (Two17 w) := by
  obtain ⟨w1, hw1⟩ : ∃ W, W = w.alloc (.cells #[.slice none 0 0, .slice none 0 0, .slice none 0 0] 31) := ⟨_, rfl⟩
  have hb1 : Below w.heap.size w w1 := by rw [hw1]; exact (Below.refl _ _).alloc (Nat.le_refl _) _
  have h0 : Holds w1 w.heap.size 31 [.slice none 0 0, .slice none 0 0, .slice none 0 0] := by rw [hw1]; exact Holds.new w 31 #[.slice none 0 0, .slice none 0 0, .slice none 0 0]
  have hs1 : w1.heap.size = w.heap.size + 1 := by rw [hw1]; simp
  have HS1 := Lib.hid hs1
  have HB1 := Lib.hid hb1
  have H0 := Lib.hid h0
  clear hb1 h0 hs1
  go_enter Try.func13, Try.ntmps13
  go_wp2_with (fail)
  rw [← hw1]
  clear hw1
  refine (setFn 0 w1).mono ?_
  rintro e w2 ⟨hb2, ga, gn, ga1, gn1, rfl, hga, hgn⟩
  have HB2 := Lib.hid hb2
  have HGA := Lib.hid hga
  have HGN := Lib.hid hgn
  clear hb2 hga hgn
  go_wp2_with (fail)
  refine (setFn 1 w2).mono ?_
  rintro e w3 ⟨hb3, gc, gm, gc1, gm1, rfl, hgc, hgm⟩
  have HB3 := Lib.hid hb3
  have HGC := Lib.hid hgc
  have HGM := Lib.hid hgm
  have HGA3 := Lib.hid (HGA.out.belowAll hb3)
  have HGN3 := Lib.hid (HGN.out.belowAll hb3)
  have HL2 := Lib.hid HGN.out.lt
  have HL1 := Lib.hid HGA.out.lt
  clear hb3 hgc hgm HGA HGN
  go_wp2_with (refine wpList_store1 rfl 4 _ _ rfl gm 5 (.bool false) rfl rfl HGM.out (by simp) sz_bool1 rfl rfl ?_)
  refine Named.mk (fun w4 hW4 => ?_)
  have hf4 : Fr (fun q => q = gm) w3 w4 := by rw [hW4]; exact Fr.setRX _ _ 5 _
  have hgm4 := HGM.out.stored hW4 (by simp)
  have HGM4 : Hid (Holds w4 gm 61 [.slice (some ⟨gc, 0, none⟩) 1 1, .bool false, .bool false, .bool false, .slice none 0 0, .bool false, .bool false, .bool false]) := hgm4
  have HGN4 := Lib.hid (hf4.holds HGN3.out (by have := HL2.out; omega))
  have HGA4 := Lib.hid (hf4.holds HGA3.out (by have := HL1.out; omega))
  have HGC4 := Lib.hid (hf4.holds HGC.out (HGC.out.ne_of_type HGM.out (by decide)))
  have HF4 := Lib.hid hf4
  clear hW4 hf4 hgm4 HGM HGN3 HGA3 HGC
  go_wp2_with (refine wpList_store1 rfl 4 _ _ rfl gn 5 (.bool false) rfl rfl HGN4.out (by simp) sz_bool1 rfl rfl ?_)
  refine Named.mk (fun w5 hW5 => ?_)
  have hf5 : Fr (fun q => q = gn) w4 w5 := by rw [hW5]; exact Fr.setRX _ _ 5 _
  have hgn5 := HGN4.out.stored hW5 (by simp)
  have HGN5 : Hid (Holds w5 gn 61 [.slice (some ⟨ga, 0, none⟩) 1 1, .bool false, .bool false, .bool false, .slice none 0 0, .bool false, .bool false, .bool false]) := hgn5
  have HGM5 := Lib.hid (hf5.holds HGM4.out (by have := HL2.out; omega))
  have HGA5 := Lib.hid (hf5.holds HGA4.out (HGA4.out.ne_of_type HGN4.out (by decide)))
  have HGC5 := Lib.hid (hf5.holds HGC4.out (by have := HGC4.out.ne_of_type HGN4.out (by decide); exact this))
  have hb5 : Below w1.heap.size w1 w5 := (HB2.out.trans (HB3.out.mono HB2.out.size)).trans ((HF4.out.to_below (B := w1.heap.size) (Nat.le_trans HB2.out.size HB3.out.size) fun k hk e => by have := HB2.out.size; omega).trans (hf5.to_below (B := w1.heap.size) (Nat.le_trans (Nat.le_trans HB2.out.size HB3.out.size) HF4.out.size) fun k hk e => by omega))
  have H05 := Lib.hid (H0.out.belowAll hb5)
  have HB5 := Lib.hid hb5
  clear hW5 hf5 hgn5 HGN4 HGM4 HGA4 HGC4 hb5 HF4 H0
  obtain ⟨wa, hwa⟩ : ∃ W, W = ((w5.alloc (.cells #[.int .i64 0, .int .i64 0] 3)).alloc (.cells #[.slice (some ⟨gn, 0, none⟩) 2 2, .slice (some ⟨gm, 0, none⟩) 2 2] 57)).alloc (.cells #[.int .i64 0, .int .i64 1, .int .i64 1, .int .i64 1] 56) := ⟨_, rfl⟩
  have hba : Below w5.heap.size w5 wa := by rw [hwa]; exact (((Below.refl _ _).alloc (Nat.le_refl _) _).alloc (by simp) _).alloc (by simp; omega) _
  have k1 : Holds wa w5.heap.size 3 [.int .i64 0, .int .i64 0] := by rw [hwa]; exact ((Holds.new w5 3 #[.int .i64 0, .int .i64 0]).alloc _).alloc _
  have k2 : Holds wa (w5.heap.size + 1) 57 [.slice (some ⟨gn, 0, none⟩) 2 2, .slice (some ⟨gm, 0, none⟩) 2 2] := by
    have h := (Holds.new (w5.alloc (.cells #[.int .i64 0, .int .i64 0] 3)) 57 #[.slice (some ⟨gn, 0, none⟩) 2 2, .slice (some ⟨gm, 0, none⟩) 2 2]).alloc (.cells #[.int .i64 0, .int .i64 1, .int .i64 1, .int .i64 1] 56)
    simp only [World.size_alloc] at h
    rw [hwa]; exact h
  have k3 : Holds wa (w5.heap.size + 1 + 1) 56 [.int .i64 0, .int .i64 1, .int .i64 1, .int .i64 1] := by
    have h := Holds.new ((w5.alloc (.cells #[.int .i64 0, .int .i64 0] 3)).alloc (.cells #[.slice (some ⟨gn, 0, none⟩) 2 2, .slice (some ⟨gm, 0, none⟩) 2 2] 57)) 56 #[.int .i64 0, .int .i64 1, .int .i64 1, .int .i64 1]
    simp only [World.size_alloc] at h
    rw [hwa]; exact h
  have hs5 : w1.heap.size ≤ w5.heap.size := HB5.out.size
  have hsw : w.heap.size ≤ w5.heap.size := Nat.le_trans HB1.out.size hs5
  have p1 := HGN5.out.belowAll hba
  have p2 := HGM5.out.belowAll hba
  have p3 := HGA5.out.belowAll hba
  have p4 := HGC5.out.belowAll hba
  have HT : Hid (ThrV (fun q => w.heap.size + 1 ≤ q) wa (.slice (some ⟨w5.heap.size, 0, none⟩) 2 2) (.slice (some ⟨w5.heap.size + 1, 0, none⟩) 2 2) (.slice (some ⟨w5.heap.size + 1 + 1, 0, none⟩) 2 2) twoT) := by
    have q1 := HS1.out
    have q2 := HB2.out.size
    refine ⟨RowL.of_holds (n := 2) k1 (by show _ ≤ _; omega) (by omega) rfl, ⟨_, RowL.of_holds (n := 2) k2 (by show _ ≤ _; omega) (by omega) rfl, ?_⟩, ⟨_, RowL.of_holds (n := 2) k3 (by show _ ≤ _; omega) (by omega) rfl, ?_⟩⟩
    · exact ⟨[.slice (some ⟨gn, 0, none⟩) 2 2], [.slice (some ⟨gm, 0, none⟩) 2 2], rfl, nodes_row p3 p1 (by show _ ≤ _; omega) (by show _ ≤ _; omega), ⟨_, [], (List.append_nil _).symm, nodes_row p4 p2 (by show _ ≤ _; omega) (by show _ ≤ _; omega), rfl⟩⟩
    · exact ⟨[.int .i64 0, .int .i64 1], [.int .i64 1, .int .i64 1], rfl, rfl, ⟨_, [], (List.append_nil _).symm, rfl, rfl⟩⟩
  have H0A := Lib.hid (H05.out.belowAll hba)
  have HBA := Lib.hid hba
  have HWA := Lib.hid hwa
  clear k1 k2 k3 p1 p2 p3 p4 hba hs5 HGN5 HGM5 HGA5 HGC5 hwa
  go_wp2_with (refine wpList_storeB rfl 31 _ _ rfl w.heap.size 0 [.slice (some ⟨w5.heap.size, 0, none⟩) 2 2, .slice (some ⟨w5.heap.size + 1, 0, none⟩) 2 2, .slice (some ⟨w5.heap.size + 1 + 1, 0, none⟩) 2 2] rfl rfl (by rw [← HWA.out]; exact H0A.out) (Nat.le_of_ble_eq_true rfl) sz_thr rfl ?_)
  rw [← HWA.out]
  refine Named.mk (fun w6 hW6 => ?_)
  have hf6 : Fr (fun q => q = w.heap.size) wa w6 := by rw [hW6]; exact Fr.setRX _ _ 0 _
  have HZ := Lib.hid (H0A.out.stored hW6 (Nat.le_of_ble_eq_true rfl))
  have hbw : Below w.heap.size w wa := HB1.out.trans ((HB5.out.trans (HBA.out.mono HB5.out.size)).mono HB1.out.size)
  have HF : Hid (Two17 w (.returned (.agg #[.slice (some ⟨w5.heap.size, 0, none⟩) 2 2, .slice (some ⟨w5.heap.size + 1, 0, none⟩) 2 2, .slice (some ⟨w5.heap.size + 1 + 1, 0, none⟩) 2 2])) w6) := ⟨hbw.trans (hf6.to_below hbw.size fun k hk e => by omega), _, _, _, rfl, (HT.out.up fun k hk hs => hf6.block k hs fun e => by have hk : w.heap.size + 1 ≤ k := hk; omega).mono fun k hk _ => by have hk : w.heap.size + 1 ≤ k := hk; show _ ≤ k; omega⟩
  clear hW6 hf6 hbw HT H0A HWA
  go_wp2
  refine bodyPost_ret (outBox Try.results13 HZ.out rfl _ Try.underlying31 rfl sz_thr) rfl ?_
  exact HF.out
end Go.Proofs.Ytcopoaaofjeklaa.G
