/- The walks of the copies' methods but the iterator, of any system. -/
import Derived.Test.YtokkjifmgmngjaaMg8
namespace Go.Proofs.Ytokkjifmgmngjaa.G
open Go.RowKit Go.Maps
set_option linter.unusedVariables false
set_option linter.unusedSimpArgs false

set_option maxRecDepth 100000 in
theorem movesFn {P : Nat → Prop} {w : World} {m : PMove} {c : List Value} {p : Int} (h : MvF P w m c) : Calls Try.prog 62 #[.agg c.toArray, .int .i64 p] w (BoolB (mvsP p m) w) := by
  obtain ⟨vr, vw, rfl, h1, h2⟩ := h
  obtain ⟨a1, c1, rfl, _, _, _⟩ := h1.form
  obtain ⟨a2, c2, rfl, _, _, _⟩ := h2.form
  obtain ⟨w1, hw1⟩ : ∃ W, W = w.alloc (.cells (mvC m (.slice a1 m.reads.length c1) (.slice a2 m.writes.length c2)).toArray 44) := ⟨_, rfl⟩
  have hb1 : Below w.heap.size w w1 := by rw [hw1]; exact (Below.refl _ _).alloc (Nat.le_refl _) _
  have hh : Holds w1 w.heap.size 44 (mvC m (.slice a1 m.reads.length c1) (.slice a2 m.writes.length c2)) := by rw [hw1]; exact Holds.new w 44 (mvC m (.slice a1 m.reads.length c1) (.slice a2 m.writes.length c2)).toArray
  have e0 := hh.cell 0
  have e2 := hh.cell 2
  have HB1 := Lib.hid hb1
  simp only [mvC, List.getElem?_cons_zero, List.getElem?_cons_succ] at e0 e2 hw1 ⊢
  clear hb1 hh h1 h2
  have HF : Hid (mvsP p m = (decide (m.proc = p) || decide (m.wth = p))) := rfl
  by_cases q1 : m.proc = p
  · have d1 : (m.proc == p) = true := by simpa using q1
    have HQ := Lib.hid q1
    clear q1
    go_enter Try.func62, Try.ntmps62
    go_upto_region 1 with (fail)
    rw [← hw1]
    clear hw1
    go_wp2
    go_ret
    exact ⟨by rw [HF.out, decide_eq_true HQ.out]; rfl, HB1.out⟩
  · have d1 : (m.proc == p) = false := by simpa using q1
    have HQ := Lib.hid q1
    clear q1
    by_cases q2 : m.wth = p
    · have d2 : (m.wth == p) = true := by simpa using q2
      have HQ2 := Lib.hid q2
      clear q2
      go_enter Try.func62, Try.ntmps62
      go_upto_region 1 with (fail)
      rw [← hw1]
      clear hw1
      go_wp2
      go_ret
      exact ⟨by rw [HF.out, decide_eq_true HQ2.out, Bool.or_true]; rfl, HB1.out⟩
    · have d2 : (m.wth == p) = false := by simpa using q2
      have HQ2 := Lib.hid q2
      clear q2
      go_enter Try.func62, Try.ntmps62
      go_upto_region 1 with (fail)
      rw [← hw1]
      clear hw1
      go_wp2
      go_ret
      exact ⟨by rw [HF.out, decide_eq_false HQ.out, decide_eq_false HQ2.out]; rfl, HB1.out⟩
def CstPost (K : Nat) (s : ByteArray) (w : World) (e : Ending) (w' : World) : Prop := Below w.heap.size w w' ∧ ∃ (k : Int) (x : ByteArray) (b : Bool), e = .returned (.tuple #[.int .i64 k, .string x, .bool b]) ∧ ((b = false ∧ cstate K s = none) ∨ (b = true ∧ ∃ n : Nat, k = (n : Int) ∧ cstate K s = some (n, x)))
theorem sz_Bool1 : (Try.prog.info? 4).map (·.size) = some 1 := by kernel_rfl
theorem sz_copies : (Try.prog.info? 64).map (·.size) = some 2 := by kernel_rfl
set_option maxHeartbeats 1000000 in
set_option maxRecDepth 100000 in
theorem cstateFn {w : World} {tid : TypeId} {dyn : Value} {K : Nat} {s : ByteArray} (hs : s.size ≤ 1048576) : Calls Try.prog 59 #[.agg #[.iface tid dyn, .int .i64 (K : Int)], .string s] w (CstPost K s w) := by
  obtain ⟨w1, hw1⟩ : ∃ W, W = w.alloc (.cells #[.iface tid dyn, .int .i64 (K : Int)] 64) := ⟨_, rfl⟩
  have hb1 : Below w.heap.size w w1 := by rw [hw1]; exact (Below.refl _ _).alloc (Nat.le_refl _) _
  have hh : Holds w1 w.heap.size 64 [.iface tid dyn, .int .i64 (K : Int)] := by rw [hw1]; exact Holds.new w 64 #[.iface tid dyn, .int .i64 (K : Int)]
  have HB1 := Lib.hid hb1
  have HH := Lib.hid hh
  have HC := Lib.hid (splitFn (w := w1) hs)
  clear hb1 hh
  go_enter Try.func59, Try.ntmps59
  go_upto_region 1 with (fail)
  rw [← hw1]
  clear hw1
  go_wp2_with (fail)
  refine HC.out.mono ?_
  rintro e w2 ⟨hb2, rfl⟩
  have HB2 : Hid (Below w.heap.size w w2) := HB1.out.trans (hb2.mono HB1.out.size)
  have e1 := (HH.out.belowAll hb2).cell 1
  simp only [List.getElem?_cons_zero, List.getElem?_cons_succ] at e1
  clear hb2 HC
  cases hd : splitP s with
  | none =>
    have HN : Hid (cstate K s = none) := by show _ = _; unfold cstate; rw [hd]
    clear hd
    dsimp only
    go_wp2
    go_quiet (fail)
    have HB3 : Hid (Below w.heap.size w (w2.drewN nq)) := below_drewN HB2.out (Nat.le_refl _) nq
    clear HB2 e1
    go_wp2
    go_ret3
    exact ⟨HB3.out, _, _, _, rfl, .inl ⟨rfl, HN.out⟩⟩
  | some p =>
    obtain ⟨n, x⟩ := p
    dsimp only
    by_cases hn : n ≤ K
    · have HN : Hid (cstate K s = some (n, x)) := by show _ = _; unfold cstate; rw [hd]; simp only; rw [if_pos hn]
      have hn2 : (n : Int) ≤ (K : Int) := by omega
      clear hd hn
      go_wp2
      go_quiet (fail)
      have HB3 : Hid (Below w.heap.size w (w2.drewN nq)) := below_drewN HB2.out (Nat.le_refl _) nq
      clear HB2 e1
      go_wp2
      go_ret3
      exact ⟨HB3.out, _, _, _, rfl, .inr ⟨rfl, n, rfl, HN.out⟩⟩
    · have HN : Hid (cstate K s = none) := by show _ = _; unfold cstate; rw [hd]; simp only; rw [if_neg hn]
      have hn2 : ¬ (n : Int) ≤ (K : Int) := by omega
      have HNN := Lib.hid hn
      clear hd hn
      go_wp2
      go_quiet (fail)
      have HB3 : Hid (Below w.heap.size w (w2.drewN nq)) := below_drewN HB2.out (Nat.le_refl _) nq
      clear HB2 e1
      go_wp2
      go_ret3
      exact ⟨HB3.out, _, _, _, rfl, .inl ⟨by first | rfl | exact decide_eq_false HNN.out, HN.out⟩⟩
theorem cstate_size {K : Nat} {s x : ByteArray} {n : Nat} (h : cstate K s = some (n, x)) : x.size ≤ s.size ∧ n ≤ K := by
  unfold cstate at h
  split at h
  · rename_i k y e
    split at h
    · rename_i hk
      injection h with h
      injection h with h1 h2
      subst h1 h2
      refine ⟨?_, hk⟩
      unfold splitP at e
      split at e
      · split at e
        · cases e
        · injection e with e
          injection e with _ e
          rw [← e]
          simp
      · cases e
    · cases h
  · cases h
set_option maxHeartbeats 1000000 in
theorem cbeginFn {I : Ifc} {S : Sys} {w : World} {K : Nat} (hS : SysOk I S w) : Calls Try.prog 55 #[.agg #[.iface I.tid I.dyn, .int .i64 (K : Int)]] w (fun e w' => e = .returned (.string (joinS 0 S.beg)) ∧ Below w.heap.size w w') := by
  obtain ⟨w1, hw1⟩ : ∃ W, W = w.alloc (.cells #[.iface I.tid I.dyn, .int .i64 (K : Int)] 64) := ⟨_, rfl⟩
  have hb1 : Below w.heap.size w w1 := by rw [hw1]; exact (Below.refl _ _).alloc (Nat.le_refl _) _
  have hh : Holds w1 w.heap.size 64 [.iface I.tid I.dyn, .int .i64 (K : Int)] := by rw [hw1]; exact Holds.new w 64 #[.iface I.tid I.dyn, .int .i64 (K : Int)]
  have e0 := hh.cell 0
  simp only [List.getElem?_cons_zero] at e0
  have HC := Lib.hid (hS.beg w1 hb1)
  have HB1 := Lib.hid hb1
  have m1 := hS.mB
  have m2 := hS.eB
  have HSB := Lib.hid hS.small.beg
  clear hb1 hh hS
  go_enter Try.func55, Try.ntmps55
  go_upto_region 1 with (fail)
  rw [← hw1]
  clear hw1
  go_wp2_with (fail)
  refine HC.out.mono ?_
  rintro e w2 ⟨rfl, hb2⟩
  have HB2 : Hid (Below w.heap.size w w2) := HB1.out.trans (hb2.mono HB1.out.size)
  clear hb2 HC e0
  have HJ := Lib.hid (B32.joinedFn (n := 0) (x := S.beg) (by omega) HSB.out w2)
  go_wp2_with (fail)
  refine HJ.out.mono ?_
  rintro e w3 ⟨rfl, hb3⟩
  have HB3 : Hid (Below w.heap.size w w3) := HB2.out.trans (hb3.mono HB2.out.size)
  clear hb3 HJ
  go_wp2
  go_ret
  exact ⟨rfl, HB3.out⟩
set_option maxHeartbeats 1000000 in
set_option maxRecDepth 100000 in
theorem clookFn {I : Ifc} {S : Sys} {w : World} {K : Nat} {s : ByteArray} (hS : SysOk I S w) (hs : s.size ≤ 1048576) : Calls Try.prog 56 #[.agg #[.iface I.tid I.dyn, .int .i64 (K : Int)], .string s] w (fun e w' => Below w.heap.size w w' ∧ e = .returned (sight (clook S K s))) := by
  obtain ⟨w1, hw1⟩ : ∃ W, W = (w.alloc (.cells #[.iface I.tid I.dyn, .int .i64 (K : Int)] 64)).alloc (.cells #[.int .u64 0, .bool false, .bool false, .bool false] 41) := ⟨_, rfl⟩
  have hb1 : Below w.heap.size w w1 := by rw [hw1]; exact ((Below.refl _ _).alloc (Nat.le_refl _) _).alloc (by simp) _
  have hh : Holds w1 w.heap.size 64 [.iface I.tid I.dyn, .int .i64 (K : Int)] := by rw [hw1]; exact (Holds.new w 64 #[.iface I.tid I.dyn, .int .i64 (K : Int)]).alloc _
  have h4 : Holds w1 (w.heap.size + 1) 41 [.int .u64 0, .bool false, .bool false, .bool false] := by
    have h := Holds.new (w.alloc (.cells #[.iface I.tid I.dyn, .int .i64 (K : Int)] 64)) 41 #[.int .u64 0, .bool false, .bool false, .bool false]
    simp only [World.size_alloc] at h
    rw [hw1]; exact h
  have HC := Lib.hid (cstateFn (w := w1) (tid := I.tid) (dyn := I.dyn) (K := K) hs)
  have HB1 := Lib.hid hb1
  have HH := Lib.hid hh
  have H4 := Lib.hid h4
  have HSS := Lib.hid hS
  have m1 := hS.mL
  have m2 := hS.eL
  have HS := Lib.hid hs
  have e0 := hh.cell 0
  have e1 := hh.cell 1
  simp only [List.getElem?_cons_zero, List.getElem?_cons_succ] at e0 e1
  clear hb1 hh h4 hS hs
  go_enter Try.func56, Try.ntmps56
  go_upto_region 1 with (fail)
  rw [← hw1]
  clear hw1
  obtain ⟨b4, hb4⟩ : ∃ b, w.heap.size + 1 = b := ⟨_, rfl⟩
  obtain ⟨b2, hb2⟩ : ∃ b, w.heap.size = b := ⟨_, rfl⟩
  have HBB : Hid (w.heap.size = b2 ∧ b2 + 1 = b4) := ⟨hb2, by omega⟩
  rw [hb4] at H4 ⊢
  rw [hb2] at HH e0 e1 ⊢
  clear hb4 hb2
  go_wp2_with (fail)
  refine HC.out.mono ?_
  rintro e w2 ⟨hb2, k, x, b, rfl, hcs⟩
  have HB2 : Hid (Below w.heap.size w w2) := HB1.out.trans (hb2.mono HB1.out.size)
  have H42 := Lib.hid (H4.out.belowAll hb2)
  have e0 := (HH.out.belowAll hb2).cell 0
  simp only [List.getElem?_cons_zero] at e0
  clear hb2 HC e1 HH H4
  rcases hcs with ⟨rfl, hcs⟩ | ⟨rfl, n, rfl, hcs⟩
  · have HL : Hid (sight (clook S K s) = .agg #[.int .u64 0, .bool false, .bool false, .bool false]) := by show _ = _; unfold clook; rw [hcs]; rfl
    clear hcs e0
    go_wp2_with (refine wpList_storeB rfl 41 _ _ rfl b4 0 [.int .u64 0, .bool false, .bool false, .bool false] rfl rfl H42.out (Nat.le_of_ble_eq_true rfl) sz_Sight rfl ?_)
    refine Named.mk (fun W3 hW3 => ?_)
    have hf3 : Fr (fun q => q = b4) w2 W3 := by rw [hW3]; exact Fr.setRX _ _ 0 _
    have H43 : Hid (Holds W3 b4 41 [.int .u64 0, .bool false, .bool false, .bool false]) := H42.out.stored hW3 (Nat.le_of_ble_eq_true rfl)
    have HB3 : Hid (Below w.heap.size w W3) := HB2.out.trans (hf3.to_below HB2.out.size fun q hq e => by have := HBB.out; have e : q = b4 := e; omega)
    clear hW3 hf3
    go_wp2
    refine bodyPost_ret (outBox Try.results56 H43.out rfl _ Try.underlying41 rfl sz_Sight) rfl ?_
    exact ⟨HB3.out, by rw [HL.out]⟩
  · have hsz := cstate_size hcs
    have HLK := Lib.hid (HSS.out.look w2 x HB2.out (Nat.le_trans hsz.1 HS.out))
    obtain ⟨y, hy⟩ : ∃ y, S.look x = y := ⟨_, rfl⟩
    rw [hy] at HLK
    have HL : Hid (sight (clook S K s) = .agg #[.int .u64 (y.props : Int), .bool y.fin, .bool y.prog, .bool (y.acc && decide (n = 0))]) := by show _ = _; unfold clook; rw [hcs]; simp only; rw [hy]; rfl
    clear hcs hsz hy
    go_wp2_with (fail)
    refine HLK.out.mono ?_
    rintro e w3 ⟨hb3, rfl⟩
    obtain ⟨ya, yp, y1, y2, y3⟩ := y
    have HZ := Lib.hid (Holds.new w3 41 #[.int .u64 0, .bool false, .bool false, .bool false])
    have HB3 : Hid (Below w.heap.size w w3) := HB2.out.trans (hb3.mono HB2.out.size)
    have H43 := Lib.hid (H42.out.belowAll hb3)
    have hlt4 := H43.out.lt
    clear hb3 HLK H42 e0
    go_wp2_with (refine wpList_storeB rfl 41 _ _ rfl w3.heap.size 0 [.int .u64 (yp : Int), .bool y1, .bool y2, .bool y3] rfl rfl HZ.out (Nat.le_of_ble_eq_true rfl) sz_Sight rfl ?_)
    refine Named.mk (fun w4 hW4 => ?_)
    have hb4 : Below w3.heap.size w3 w4 := by rw [hW4]; exact Below.far (Below.refl _ _) (Nat.le_refl _) _ _ _
    have h8 : Holds w4 w3.heap.size 41 [.int .u64 (yp : Int), .bool y1, .bool y2, .bool y3] := HZ.out.stored hW4 (Nat.le_of_ble_eq_true rfl)
    obtain ⟨b8, hb8⟩ : ∃ b, w3.heap.size = b := ⟨_, rfl⟩
    have HB4 : Hid (Below w.heap.size w w4) := HB3.out.trans (hb4.mono HB3.out.size)
    have H44 := Lib.hid (H43.out.belowAll hb4)
    have HB8 : Hid (w.heap.size ≤ b8 ∧ b4 < b8) := ⟨by rw [← hb8]; exact HB3.out.size, by rw [← hb8]; exact hlt4⟩
    rw [hb8] at h8 ⊢
    have H8 := Lib.hid h8
    have x3 := h8.cell 3
    simp only [List.getElem?_cons_zero, List.getElem?_cons_succ] at x3
    clear hW4 hb4 h8 hb8 HZ H43 hlt4
    cases y3 with
    | false =>
      go_wp2_with (first | (refine wpList_store1 rfl 4 _ _ rfl b8 3 (.bool false) rfl rfl H8.out (by simp) sz_Bool1 rfl rfl ?_))
      refine Named.mk (fun w5 hW5 => ?_)
      have hf5 : Fr (fun q => q = b8) w4 w5 := by rw [hW5]; exact Fr.setRX _ _ 3 _
      have h85 : Holds w5 b8 41 [.int .u64 (yp : Int), .bool y1, .bool y2, .bool false] := H8.out.stored hW5 (by simp)
      have H45 := Lib.hid (hf5.holds H44.out (by have := HB8.out; omega))
      have HB5 : Hid (Below w.heap.size w w5) := HB4.out.trans (hf5.to_below HB4.out.size fun q hq e => by have := HB8.out; have e : q = b8 := e; omega)
      have HRG := Lib.hid (h85.range (i := 0) (n := 4) (xs := [.int .u64 (yp : Int), .bool y1, .bool y2, .bool false]) rfl)
      clear hW5 hf5 h85 H44 H8 x3
      go_wp2_with (first | (refine wpList_load_mid rfl 41 _ rfl b8 0 rfl [.int .u64 (yp : Int), .bool y1, .bool y2, .bool false] _ HRG.out Try.underlying41 rfl sz_Sight ?_) | (refine wpList_storeB rfl 41 _ _ rfl b4 0 [.int .u64 (yp : Int), .bool y1, .bool y2, .bool false] rfl rfl H45.out (Nat.le_of_ble_eq_true rfl) sz_Sight rfl ?_))
      refine Named.mk (fun w6 hW6 => ?_)
      have hf6 : Fr (fun q => q = b4) w5 w6 := by rw [hW6]; exact Fr.setRX _ _ 0 _
      have H46 : Hid (Holds w6 b4 41 [.int .u64 (yp : Int), .bool y1, .bool y2, .bool false]) := H45.out.stored hW6 (Nat.le_of_ble_eq_true rfl)
      have HB6 : Hid (Below w.heap.size w w6) := HB5.out.trans (hf6.to_below HB5.out.size fun q hq e => by have := HBB.out; have e : q = b4 := e; omega)
      clear hW6 hf6 H45 HRG
      go_wp2
      refine bodyPost_ret (outBox Try.results56 H46.out rfl _ Try.underlying41 rfl sz_Sight) rfl ?_
      exact ⟨HB6.out, by rw [HL.out]; rfl⟩
    | true =>
      by_cases hn0 : n = 0
      · subst hn0
        go_wp2_with (first | (refine wpList_store1 rfl 4 _ _ rfl b8 3 (.bool true) rfl rfl H8.out (by simp) sz_Bool1 rfl rfl ?_))
        refine Named.mk (fun w5 hW5 => ?_)
        have hf5 : Fr (fun q => q = b8) w4 w5 := by rw [hW5]; exact Fr.setRX _ _ 3 _
        have h85 : Holds w5 b8 41 [.int .u64 (yp : Int), .bool y1, .bool y2, .bool true] := H8.out.stored hW5 (by simp)
        have H45 := Lib.hid (hf5.holds H44.out (by have := HB8.out; omega))
        have HB5 : Hid (Below w.heap.size w w5) := HB4.out.trans (hf5.to_below HB4.out.size fun q hq e => by have := HB8.out; have e : q = b8 := e; omega)
        have HRG := Lib.hid (h85.range (i := 0) (n := 4) (xs := [.int .u64 (yp : Int), .bool y1, .bool y2, .bool true]) rfl)
        clear hW5 hf5 h85 H44 H8 x3
        go_wp2_with (first | (refine wpList_load_mid rfl 41 _ rfl b8 0 rfl [.int .u64 (yp : Int), .bool y1, .bool y2, .bool true] _ HRG.out Try.underlying41 rfl sz_Sight ?_) | (refine wpList_storeB rfl 41 _ _ rfl b4 0 [.int .u64 (yp : Int), .bool y1, .bool y2, .bool true] rfl rfl H45.out (Nat.le_of_ble_eq_true rfl) sz_Sight rfl ?_))
        refine Named.mk (fun w6 hW6 => ?_)
        have hf6 : Fr (fun q => q = b4) w5 w6 := by rw [hW6]; exact Fr.setRX _ _ 0 _
        have H46 : Hid (Holds w6 b4 41 [.int .u64 (yp : Int), .bool y1, .bool y2, .bool true]) := H45.out.stored hW6 (Nat.le_of_ble_eq_true rfl)
        have HB6 : Hid (Below w.heap.size w w6) := HB5.out.trans (hf6.to_below HB5.out.size fun q hq e => by have := HBB.out; have e : q = b4 := e; omega)
        clear hW6 hf6 H45 HRG
        go_wp2
        refine bodyPost_ret (outBox Try.results56 H46.out rfl _ Try.underlying41 rfl sz_Sight) rfl ?_
        exact ⟨HB6.out, by rw [HL.out]; rfl⟩
      · have dz : ((n : Int) == 0) = false := by rw [Bool.eq_false_iff]; intro h; have h4 := eq_of_beq h; omega
        have hdd : decide (n = 0) = false := decide_eq_false hn0
        rw [hdd] at HL
        clear hn0 hdd
        go_wp2_with (first | (refine wpList_store1 rfl 4 _ _ rfl b8 3 (.bool false) rfl rfl H8.out (by simp) sz_Bool1 rfl rfl ?_))
        refine Named.mk (fun w5 hW5 => ?_)
        have hf5 : Fr (fun q => q = b8) w4 w5 := by rw [hW5]; exact Fr.setRX _ _ 3 _
        have h85 : Holds w5 b8 41 [.int .u64 (yp : Int), .bool y1, .bool y2, .bool false] := H8.out.stored hW5 (by simp)
        have H45 := Lib.hid (hf5.holds H44.out (by have := HB8.out; omega))
        have HB5 : Hid (Below w.heap.size w w5) := HB4.out.trans (hf5.to_below HB4.out.size fun q hq e => by have := HB8.out; have e : q = b8 := e; omega)
        have HRG := Lib.hid (h85.range (i := 0) (n := 4) (xs := [.int .u64 (yp : Int), .bool y1, .bool y2, .bool false]) rfl)
        clear hW5 hf5 h85 H44 H8 x3
        go_wp2_with (first | (refine wpList_load_mid rfl 41 _ rfl b8 0 rfl [.int .u64 (yp : Int), .bool y1, .bool y2, .bool false] _ HRG.out Try.underlying41 rfl sz_Sight ?_) | (refine wpList_storeB rfl 41 _ _ rfl b4 0 [.int .u64 (yp : Int), .bool y1, .bool y2, .bool false] rfl rfl H45.out (Nat.le_of_ble_eq_true rfl) sz_Sight rfl ?_))
        refine Named.mk (fun w6 hW6 => ?_)
        have hf6 : Fr (fun q => q = b4) w5 w6 := by rw [hW6]; exact Fr.setRX _ _ 0 _
        have H46 : Hid (Holds w6 b4 41 [.int .u64 (yp : Int), .bool y1, .bool y2, .bool false]) := H45.out.stored hW6 (Nat.le_of_ble_eq_true rfl)
        have HB6 : Hid (Below w.heap.size w w6) := HB5.out.trans (hf6.to_below HB5.out.size fun q hq e => by have := HBB.out; have e : q = b4 := e; omega)
        clear hW6 hf6 H45 HRG
        go_wp2
        refine bodyPost_ret (outBox Try.results56 H46.out rfl _ Try.underlying41 rfl sz_Sight) rfl ?_
        exact ⟨HB6.out, by rw [HL.out]; rfl⟩
end Go.Proofs.Ytokkjifmgmngjaa.G
