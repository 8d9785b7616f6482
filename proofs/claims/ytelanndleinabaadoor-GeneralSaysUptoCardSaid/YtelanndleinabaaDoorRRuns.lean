/- RStep, RunS, RRuns, joined. -/
import Derived.Test.YtelanndleinabaaDoorSaysR
import Derived.Test.YtelanndleinabaaDoorPairs
import Derived.Test.YtelanndleinabaaDoorAChk
import Derived.Test.YtelanndleinabaaDoorReach
section
/- The walks of sextantref11's next and step. -/
namespace Go.Proofs.YtelanndleinabaaDoor
open Go.RowKit
set_option linter.unusedVariables false

set_option maxHeartbeats 1000000 in
set_option maxRecDepth 100000 in
theorem nextFn (l : Las) (vl : Value) (i : Nat) (w : World) (hl : LasAt w.heap.size w vl l) (hi : i < plN l) (hb : plN l ≤ 4096) :
    Calls Tryd.prog 53 #[vl, .int .i64 (i : Int)] w fun e w' => e = .returned (.int .i64 ((nx l i : Nat) : Int)) ∧ Below w.heap.size w w' := by
  obtain ⟨vp, vq, rfl, hp, hq⟩ := hl
  obtain ⟨a3, cap3, rfl, hc3, hm3⟩ := hp.form
  obtain ⟨a4, cap4, rfl, hc4, hm4⟩ := hq.form
  obtain ⟨R, hR⟩ : ∃ R, nx l i = R := ⟨_, rfl⟩
  have hR2 : nextPl l.pre.length (l.pre.length + l.loop.length) i = R := hR
  rw [hR]
  unfold plN at hi hb
  obtain ⟨p1, hp1⟩ : ∃ p1, l.pre.length = p1 := ⟨_, rfl⟩
  obtain ⟨p2, hp2⟩ : ∃ p2, l.loop.length = p2 := ⟨_, rfl⟩
  rw [hp1, hp2] at hi hb hR2
  rw [hp1] at hc3 ⊢
  rw [hp2] at hc4 ⊢
  obtain ⟨sz, hsz⟩ : ∃ sz, p1 + p2 = sz := ⟨_, rfl⟩
  have hwsz : IntKind.i64.wrap ((p1 : Int) + (p2 : Int)) = (sz : Int) := wrap_add hsz (by omega)
  obtain ⟨i1, hi1⟩ : ∃ i1, i + 1 = i1 := ⟨_, rfl⟩
  have hwi : IntKind.i64.wrap ((i : Int) + 1) = (i1 : Int) := by rw [wrap_small (by omega) (by omega)]; omega
  rw [hsz] at hi hb hR2
  have hB0 : Below w.heap.size w (w.alloc (.cells #[.slice a3 p1 cap3, .slice a4 p2 cap4] 28)) := (Below.refl _ _).alloc (Nat.le_refl _) _
  have hW := Holds.new w 28 #[.slice a3 p1 cap3, .slice a4 p2 cap4]
  have z0 := hW.cell 0
  have z1 := hW.cell 1
  simp only [List.getElem?_cons_zero, List.getElem?_cons_succ] at z0 z1
  unfold nextPl at hR2
  by_cases h : i1 < sz
  · have hr : R = i1 := by rw [if_neg (by omega)] at hR2; omega
    have h' : (i1 : Int) < (sz : Int) := by omega
    subst hr
    clear hp hq hR hR2 hp1 hp2 hsz hi1
    go_enter Tryd.func53, Tryd.ntmps53
    go_wp2
    go_ret
    exact ⟨rfl, hB0⟩
  · have hr : R = p1 := by rw [if_pos (by omega)] at hR2; omega
    have h' : decide ((i1 : Int) < (sz : Int)) = false := decide_eq_false (by omega)
    subst hr
    clear hp hq hR hR2 hp1 hp2 hsz hi1
    go_enter Tryd.func53, Tryd.ntmps53
    go_wp2
    go_ret
    exact ⟨rfl, hB0⟩

/-- A table of which the rows below n are filled. -/
def TabR (B : Nat) (w : World) (v : Value) (N L n : Nat) (run : Nat → Nat → Bool) : Prop :=
  ∃ g o cap, v = .slice (some ⟨g, o, none⟩) N cap ∧ N ≤ cap ∧ g < B ∧ ∀ t, t < n → ∃ g2 o2 c2, w.cell? ⟨g, o + t, none⟩ = some (.slice (some ⟨g2, o2, none⟩) L c2) ∧ L ≤ c2 ∧ g2 < B ∧ ∀ j, j < L → w.cell? ⟨g2, o2 + j, none⟩ = some (.bool (run t j))
theorem TabR.below {B N L n : Nat} {w w' : World} {v : Value} {run : Nat → Nat → Bool} (h : TabR B w v N L n run) (hb : Below B w w') : TabR B w' v N L n run := by
  obtain ⟨g, o, cap, e, hc, hg, hr⟩ := h
  refine ⟨g, o, cap, e, hc, hg, fun t ht => ?_⟩
  obtain ⟨g2, o2, c2, h1, h2, h3, h4⟩ := hr t ht
  exact ⟨g2, o2, c2, (cell_below hb hg _).trans h1, h2, h3, fun j hj => (cell_below hb h3 _).trans (h4 j hj)⟩
theorem TabR.mono {B B' N L n : Nat} {w : World} {v : Value} {run : Nat → Nat → Bool} (h : TabR B w v N L n run) (hb : B ≤ B') : TabR B' w v N L n run := by
  obtain ⟨g, o, cap, e, hc, hg, hr⟩ := h
  refine ⟨g, o, cap, e, hc, by omega, fun t ht => ?_⟩
  obtain ⟨g2, o2, c2, h1, h2, h3, h4⟩ := hr t ht
  exact ⟨g2, o2, c2, h1, h2, by omega, h4⟩

set_option maxHeartbeats 8000000 in
set_option maxRecDepth 100000 in
theorem stepFn11 (a : Alt) (l : Las) (va vl vr : Value) (n i : Nat) (own : Bool) (run : Nat → Nat → Bool) (w : World) (hA : AltAt w.heap.size w va a) (hl : LasAt w.heap.size w vl l) (hT : TabR w.heap.size w vr a.states.length (plN l) n run)
    (hlc : lasCode l = 0) (hi : i < plN l) (hn : n < a.states.length) (hN : a.states.length ≤ 4096) (hm : movesN a.states ≤ 4000000) (hto : ToOk a.states) :
    Calls Tryd.prog 52 #[va, vl, vr, .int .i64 (n : Int), .int .i64 (i : Int), .bool own] w fun e w' => e = .returned (.bool (stepB run a.states l n i own)) ∧ Below w.heap.size w w' := by
  have hp4 : plN l ≤ 4096 := by unfold lasCode at hlc; unfold plN; split at hlc <;> omega
  have HLAS := Lib.hid hl
  have hnxl := nx_lt hlc hi
  have hxlt := letter_lt hl i
  obtain ⟨x, hx⟩ : ∃ x, ltr l i = x := ⟨_, rfl⟩
  have hx' : (l.pre ++ l.loop).getD i 0 = x := hx
  rw [hx'] at hxlt
  obtain ⟨va1, va2, rfl, hA1, hA2⟩ := hA
  obtain ⟨a1, cap1, rfl, hc1, hm1⟩ := hA1.form
  obtain ⟨a2, cap2, rfl, hc2, hm2⟩ := hA2.form
  obtain ⟨vp, vq, rfl, hp, hq⟩ := hl
  obtain ⟨a3, cap3, rfl, hc3, hm3⟩ := hp.form
  obtain ⟨a4, cap4, rfl, hc4, hm4⟩ := hq.form
  obtain ⟨N, hNe⟩ : ∃ N, a.states.length = N := ⟨_, rfl⟩
  obtain ⟨q, hqe⟩ : ∃ q, a.init.length = q := ⟨_, rfl⟩
  obtain ⟨p1, hp1⟩ : ∃ p1, l.pre.length = p1 := ⟨_, rfl⟩
  obtain ⟨p2, hp2⟩ : ∃ p2, l.loop.length = p2 := ⟨_, rfl⟩
  obtain ⟨L, hL⟩ : ∃ L, plN l = L := ⟨_, rfl⟩
  obtain ⟨nxi, hnxi⟩ : ∃ nxi, nx l i = nxi := ⟨_, rfl⟩
  have hiL := hi
  have hp4L := hp4
  rw [hL] at hiL hp4L hT hnxl
  rw [hnxi] at hnxl
  rw [hNe] at hc2 hn hN hA2 hT ⊢
  rw [hqe] at hc1 ⊢
  rw [hp1] at hc3 HLAS ⊢
  rw [hp2] at hc4 HLAS ⊢
  obtain ⟨R, hR⟩ : ∃ R, stepB run a.states l n i own = R := ⟨_, rfl⟩
  rw [hR]
  obtain ⟨ag, ao, capT, rfl, hcT, hgT, hrT⟩ := hT
  have HRT := Lib.hid hrT
  obtain ⟨gb, o, u, rfl, hgb, e0, e1, hu⟩ := hA2.at (k := n) (by rw [hNe]; exact hn)
  have hsq : a.states[n]? = some (a.states[n]'(by rw [hNe]; exact hn)) := List.getElem?_eq_getElem _
  have hmv : movesOf a.states (n : Int) = (a.states[n]'(by rw [hNe]; exact hn)).2 := by
    unfold movesOf
    rw [Int.toNat_natCast, List.getD_eq_getElem?_getD, hsq]; rfl
  have hmle : (a.states[n]'(by rw [hNe]; exact hn)).2.length ≤ 4000000 := by
    have h1 := movesN_at a.states n
    have h2 := movesN_drop a.states 0 n (by omega)
    rw [List.drop_zero] at h2
    rw [hmv] at h1
    omega
  have htn := hto n
  rw [hmv] at htn
  unfold stepB at hR
  rw [hmv] at hR
  obtain ⟨ys, hys⟩ : ∃ ys, (a.states[n]'(by rw [hNe]; exact hn)).2 = ys := ⟨_, rfl⟩
  rw [hys] at hR hu htn hmle
  obtain ⟨a6, cap6, rfl, hc6, hm6⟩ := hu.form
  obtain ⟨p, hpl⟩ : ∃ p, ys.length = p := ⟨_, rfl⟩
  rw [hpl] at hc6 e1 hu hmle
  have HU := Lib.hid hu
  have HPL := Lib.hid hpl
  have HTN := Lib.hid htn
  have HX := Lib.hid hx'
  have HP1 := Lib.hid hp1
  have HP2 := Lib.hid hp2
  have HLC := Lib.hid hlc
  have HNX := Lib.hid hnxi
  have HI := Lib.hid hi
  have HP4 := Lib.hid hp4
  have HR0 : Hid (R = (ys.drop 0).any (fitM run l n i own)) := hR.symm
  have HFT : Hid (∀ m, fitM run l n i own m = (hasB m.yes m.no x && m.to.all (fun t => t == (n : Int) || run t.toNat nxi) && (m.to.any (fun t => t == (n : Int)) == own))) := fun m => by unfold fitM; rw [hx, hnxi]
  have hB0 : Below w.heap.size w ((w.alloc (.cells #[.slice a1 q cap1, .slice (some ⟨gb, o, none⟩) N cap2] 39)).alloc (.cells #[.slice a3 p1 cap3, .slice a4 p2 cap4] 28)) := ((Below.refl _ _).alloc (Nat.le_refl _) _).alloc (by simp) _
  have hG0 := (Holds.new w 39 #[.slice a1 q cap1, .slice (some ⟨gb, o, none⟩) N cap2]).alloc (.cells #[.slice a3 p1 cap3, .slice a4 p2 cap4] 28)
  have hL0 : Holds ((w.alloc (.cells #[.slice a1 q cap1, .slice (some ⟨gb, o, none⟩) N cap2] 39)).alloc (.cells #[.slice a3 p1 cap3, .slice a4 p2 cap4] 28)) (w.heap.size + 1) 28 [.slice a3 p1 cap3, .slice a4 p2 cap4] := holds_at (k := w.heap.size + 1) (by simp) 28 #[.slice a3 p1 cap3, .slice a4 p2 cap4]
  have c1 := hG0.cell 1
  simp only [List.getElem?_cons_zero, List.getElem?_cons_succ] at c1
  replace e1 := (cell_below hB0 hgb _).trans e1
  have HL0 := Lib.hid hL0
  have hn' : (n : Int) < (N : Int) := by omega
  clear hA1 hA2 hp hq hNe hqe hp1 hp2 hL hx hx' hrT hu hpl htn hR hsq hmv hys hto hm hlc hnxi hL0 hG0 e0
  go_enter Tryd.func52, Tryd.ntmps52
  go_wp2
  generalize ((w.alloc (.cells #[.slice a1 q cap1, .slice (some ⟨gb, o, none⟩) N cap2] 39)).alloc (.cells #[.slice a3 p1 cap3, .slice a4 p2 cap4] 28)) = W0 at *
  generalize hbL : w.heap.size + 1 = bL at *
  have HB0 := Lib.hid hB0
  have hW0 : w.heap.size ≤ W0.heap.size := hB0.size
  clear hB0 c1 e1
  go_loopw [14] (fun y wr => ∃ k : Nat, y = .int .i64 (k : Int) ∧ k ≤ p ∧ Hid (R = (ys.drop k).any (fitM run l n i own)) ∧ Hid (Below W0.heap.size W0 wr)) (fun y _ => (p + 10 - intOf y).toNat)
  case atStart => exact ⟨0, rfl, Nat.zero_le _, HR0, Below.refl _ _⟩
  case round =>
    clear HR0
    obtain ⟨k, rfl, hk, HK, HBr⟩ := hrel
    obtain ⟨W1, rfl⟩ : ∃ W, W = wr := ⟨wr, rfl⟩
    have HB1 : Hid (Below w.heap.size w W1) := HB0.out.trans (HBr.out.mono HB0.out.size)
    have HL1 : Hid (Holds W1 bL 28 [.slice a3 p1 cap3, .slice a4 p2 cap4]) := HL0.out.belowAll HBr.out
    by_cases hkp : k < p
    · have hkp' : (k : Int) < (p : Int) := by omega
      obtain ⟨m, hmq⟩ : ∃ m, ys[k]? = some m := ⟨_, List.getElem?_eq_getElem (by rw [HPL.out]; exact hkp)⟩
      obtain ⟨g3, o3, ut, rfl, hg3, f0, f1, f2, hut, q1, q2⟩ := (HU.out.below HB1.out).at (k := k) (by rw [HPL.out]; exact hkp)
      rw [(List.getElem?_eq_some_iff.1 hmq).2] at f0 f1 hut q1 q2
      have hdr := drop_at hmq
      have hmt := HTN.out m (List.mem_of_getElem? hmq)
      have hft := HFT.out m
      obtain ⟨my, mn, mt⟩ := m
      simp only at f0 f1 hut q1 q2 hmt hft
      obtain ⟨a5, cap5, rfl, hc5, hm5⟩ := hut.form
      obtain ⟨n5, hn5⟩ : ∃ n5, mt.length = n5 := ⟨_, rfl⟩
      rw [hn5] at hc5 f2 hut
      have HUT := Lib.hid hut
      have HN5 := Lib.hid hn5
      have HMT := Lib.hid hmt
      obtain ⟨FM, hFM⟩ : ∃ FM, fitM run l n i own ⟨my, mn, mt⟩ = FM := ⟨_, rfl⟩
      have HKK : Hid (R = (FM || (ys.drop (k + 1)).any (fitM run l n i own))) := by
        show _ = _
        rw [HK.out, hdr, List.any_cons, hFM]
      obtain ⟨hb, hhb⟩ : ∃ hb, hasB my mn x = hb := ⟨_, rfl⟩
      have HF0 : Hid (FM = (hb && (mt.drop 0).all (fun t => t == (n : Int) || run t.toNat nxi) && ((false || (mt.drop 0).any (fun t => t == (n : Int))) == own))) := by
        show _ = _
        rw [← hFM, hft, hhb, List.drop_zero, Bool.false_or]
      have hC : Hid (∀ w', Below W1.heap.size W1 w' → (fun w' : World => Below W1.heap.size W1 w' ∧ w'.cell? ⟨g3, o3 + k * 3, none⟩ = some (.int .u64 (my : Int)) ∧ w'.cell? ⟨g3, o3 + k * 3 + 1, none⟩ = some (.int .u64 (mn : Int)) ∧ w'.cell? ⟨bL, 0, none⟩ = some (.slice a3 p1 cap3) ∧ w'.cell? ⟨bL, 1, none⟩ = some (.slice a4 p2 cap4)) w') := fun w' h => by
        have h2 := HL1.out.belowAll h
        have hg3' : g3 < W1.heap.size := Nat.lt_of_lt_of_le hg3 HB1.out.size
        exact ⟨h, (cell_below h hg3' _).trans f0, (cell_below h hg3' _).trans f1, h2.cell 0, h2.cell 1⟩
      have hCt : Hid (∀ w' w6, (fun w' : World => Below W1.heap.size W1 w' ∧ w'.cell? ⟨g3, o3 + k * 3, none⟩ = some (.int .u64 (my : Int)) ∧ w'.cell? ⟨g3, o3 + k * 3 + 1, none⟩ = some (.int .u64 (mn : Int)) ∧ w'.cell? ⟨bL, 0, none⟩ = some (.slice a3 p1 cap3) ∧ w'.cell? ⟨bL, 1, none⟩ = some (.slice a4 p2 cap4)) w' → Below w'.heap.size w' w6 → (fun w' : World => Below W1.heap.size W1 w' ∧ w'.cell? ⟨g3, o3 + k * 3, none⟩ = some (.int .u64 (my : Int)) ∧ w'.cell? ⟨g3, o3 + k * 3 + 1, none⟩ = some (.int .u64 (mn : Int)) ∧ w'.cell? ⟨bL, 0, none⟩ = some (.slice a3 p1 cap3) ∧ w'.cell? ⟨bL, 1, none⟩ = some (.slice a4 p2 cap4)) w6) := fun w' w6 h h' => hC.out _ (h.1.trans (h'.mono h.1.size))
      have HLT : Hid (∀ w', Below W1.heap.size W1 w' → Calls Tryd.prog 38 #[.agg #[.slice a3 p1 cap3, .slice a4 p2 cap4], .int .u64 (i : Int)] w' fun e w'' => e = .returned (.int .u64 (x : Int)) ∧ Below w'.heap.size w' w'') := fun w' hw' => by
        have hb := HB1.out.trans (hw'.mono HB1.out.size)
        have h1 := HI.out
        have h2 := HP4.out
        unfold plN at h1 h2
        have := letterFn l (.agg #[.slice a3 p1 cap3, .slice a4 p2 cap4]) i w' ((HLAS.out.below hb).mono hb.size) h1 (by omega)
        rw [HX.out] at this
        exact this
      have hcv : IntKind.u64.wrap (i : Int) = (i : Int) := by simp [IntKind.wrap, IntKind.signed, IntKind.bits]; omega
      have f2' : Hid (∀ w', Below W1.heap.size W1 w' → w'.cell? ⟨g3, o3 + k * 3 + 2, none⟩ = some (.slice a5 n5 cap5)) := fun w' h => (cell_below h (Nat.lt_of_lt_of_le hg3 HB1.out.size) _).trans f2
      clear hmq hut hn5 hmt hft hdr hFM f0 f1 f2
      go_wp2
      go_region_held3 (fun w' : World => Below W1.heap.size W1 w' ∧ w'.cell? ⟨g3, o3 + k * 3, none⟩ = some (.int .u64 (my : Int)) ∧ w'.cell? ⟨g3, o3 + k * 3 + 1, none⟩ = some (.int .u64 (mn : Int)) ∧ w'.cell? ⟨bL, 0, none⟩ = some (.slice a3 p1 cap3) ∧ w'.cell? ⟨bL, 1, none⟩ = some (.slice a4 p2 cap4)) (first | exact hC.out _ (Below.refl _ _).drew | exact hS6.out | exact hS7.out) (first
        | (go_at_call 38; refine (HLT.out _ (And.left (by assumption))).mono ?_; rintro e w6 ⟨rfl, hb6⟩; have hS6 := Lib.hid (hCt.out _ _ (by assumption) hb6); clear hb6)
        | (go_at_call 37; refine (refHas my mn x hxlt q1 q2 w6).mono ?_; rintro e w7 ⟨rfl, hb7⟩; rw [hhb]; have hS7 := Lib.hid (hCt.out _ _ hS6.out hb7); clear hb7))
      all_goals (
        have HB7 : Hid (Below W1.heap.size W1 w7) := hS7.out.1
        have f2w := f2'.out _ HB7.out
        clear hS6 hS7
        go_wp2
        go_loopw [15, 16, 17] (fun u v y wr => ∃ (F St : Bool) (j : Nat), u = .bool F ∧ v = .bool St ∧ y = .int .i64 (j : Int) ∧ j ≤ n5 ∧ Hid (FM = (F && (mt.drop j).all (fun t => t == (n : Int) || run t.toNat nxi) && ((St || (mt.drop j).any (fun t => t == (n : Int))) == own))) ∧ Hid (Below W1.heap.size W1 wr)) (fun _ _ y _ => (n5 + 10 - intOf y).toNat)
        case atStart => exact ⟨hb, false, 0, rfl, rfl, rfl, Nat.zero_le _, HF0, HB7⟩
        case round =>
          clear HF0 HB7 f2w
          obtain ⟨F, St, j, rfl, rfl, rfl, hj, HF, HBx⟩ := hrel
          obtain ⟨W2, rfl⟩ : ∃ W, W = wr := ⟨wr, rfl⟩
          have HB2 : Hid (Below w.heap.size w W2) := HB1.out.trans (HBx.out.mono HB1.out.size)
          have f2w := f2'.out _ HBx.out
          by_cases hjn : j < n5 ∧ F = true
          · obtain ⟨hjn, rfl⟩ := hjn
            have hjn' : (j : Int) < (n5 : Int) := by omega
            obtain ⟨g5, o5, rfl, hg5, hcl⟩ := (HUT.out.below (HBx.out.mono HB1.out.size)).at (k := j) (by rw [HN5.out]; exact hjn)
            obtain ⟨t, htq⟩ : ∃ t, mt[j]? = some t := ⟨_, List.getElem?_eq_getElem (by rw [HN5.out]; exact hjn)⟩
            rw [(List.getElem?_eq_some_iff.1 htq).2] at hcl
            obtain ⟨ht0, htn⟩ := HMT.out t (List.mem_of_getElem? htq)
            obtain ⟨tn, rfl⟩ : ∃ tn : Nat, t = (tn : Int) := ⟨t.toNat, by omega⟩
            have hdt := drop_at htq
            have HFF : Hid (FM = (((tn : Int) == (n : Int) || run tn nxi) && (mt.drop (j + 1)).all (fun t => t == (n : Int) || run t.toNat nxi) && ((St || ((tn : Int) == (n : Int) || (mt.drop (j + 1)).any (fun t => t == (n : Int)))) == own))) := by
              show _ = _
              rw [HF.out, hdt, List.all_cons, List.any_cons, Bool.true_and, Int.toNat_natCast]
            clear htq hdt HF
            by_cases hte : tn = n
            · subst hte
              have hbe : ((tn : Int) == (tn : Int)) = true := by simp
              have HF' : Hid (FM = (true && (mt.drop (j + 1)).all (fun t => t == (tn : Int) || run t.toNat nxi) && ((true || (mt.drop (j + 1)).any (fun t => t == (tn : Int))) == own))) := by
                show _ = _
                rw [HFF.out, hbe]
                cases St <;> simp
              clear HFF
              go_wp2
              go_roundw
              case rel => first | exact ⟨true, true, j + 1, rfl, rfl, rfl, by omega, HF', HBx⟩ | ((repeat apply Exists.intro); exact ⟨⟨true, true, j + 1, rfl, rfl, rfl, by omega, HF', HBx⟩, rfl⟩)
              case measure => simp [intOf]; omega
            · have hbe : ((tn : Int) == (n : Int)) = false := by simp; omega
              have hne : ¬ ((tn : Int) = (n : Int)) := by omega
              have htn2 : tn < n := by omega
              obtain ⟨g2, o2, c2, r1, r2, r3, r4⟩ := HRT.out tn htn2
              have r5 := r4 nxi hnxl
              obtain ⟨b, hbb⟩ : ∃ b, run tn nxi = b := ⟨_, rfl⟩
              rw [hbb] at r5 HFF
              have HF' : Hid (FM = (b && (mt.drop (j + 1)).all (fun t => t == (n : Int) || run t.toNat nxi) && ((St || (mt.drop (j + 1)).any (fun t => t == (n : Int))) == own))) := by
                show _ = _
                rw [HFF.out, hbe]
                simp
              have htN : (tn : Int) < (N : Int) := by omega
              have hnx' : (nxi : Int) < (L : Int) := by omega
              have HL2 : Hid (Holds W2 bL 28 [.slice a3 p1 cap3, .slice a4 p2 cap4]) := HL1.out.belowAll HBx.out
              have hCw : Hid (∀ w', Below W2.heap.size W2 w' → (fun w' : World => Below W2.heap.size W2 w' ∧ w'.cell? ⟨ag, ao + tn, none⟩ = some (.slice (some ⟨g2, o2, none⟩) L c2) ∧ w'.cell? ⟨g2, o2 + nxi, none⟩ = some (.bool b) ∧ w'.cell? ⟨bL, 0, none⟩ = some (.slice a3 p1 cap3) ∧ w'.cell? ⟨bL, 1, none⟩ = some (.slice a4 p2 cap4)) w') := fun w' h => by
                have h2 := HL2.out.belowAll h
                have hh := HB2.out.trans (h.mono HB2.out.size)
                exact ⟨h, (cell_below hh hgT _).trans r1, (cell_below hh r3 _).trans r5, h2.cell 0, h2.cell 1⟩
              have hCu : Hid (∀ w' w6, (fun w' : World => Below W2.heap.size W2 w' ∧ w'.cell? ⟨ag, ao + tn, none⟩ = some (.slice (some ⟨g2, o2, none⟩) L c2) ∧ w'.cell? ⟨g2, o2 + nxi, none⟩ = some (.bool b) ∧ w'.cell? ⟨bL, 0, none⟩ = some (.slice a3 p1 cap3) ∧ w'.cell? ⟨bL, 1, none⟩ = some (.slice a4 p2 cap4)) w' → Below w'.heap.size w' w6 → (fun w' : World => Below W2.heap.size W2 w' ∧ w'.cell? ⟨ag, ao + tn, none⟩ = some (.slice (some ⟨g2, o2, none⟩) L c2) ∧ w'.cell? ⟨g2, o2 + nxi, none⟩ = some (.bool b) ∧ w'.cell? ⟨bL, 0, none⟩ = some (.slice a3 p1 cap3) ∧ w'.cell? ⟨bL, 1, none⟩ = some (.slice a4 p2 cap4)) w6) := fun w' w6 h h' => hCw.out _ (h.1.trans (h'.mono h.1.size))
              have HNT : Hid (∀ w', Below W2.heap.size W2 w' → Calls Tryd.prog 53 #[.agg #[.slice a3 p1 cap3, .slice a4 p2 cap4], .int .i64 (i : Int)] w' fun e w'' => e = .returned (.int .i64 (nxi : Int)) ∧ Below w'.heap.size w' w'') := fun w' hw' => by
                have hb := HB2.out.trans (hw'.mono HB2.out.size)
                have := nextFn l (.agg #[.slice a3 p1 cap3, .slice a4 p2 cap4]) i w' ((HLAS.out.below hb).mono hb.size) HI.out HP4.out
                rw [HNX.out] at this
                exact this
              clear HFF r1 r4 r5 hbb
              go_wp2
              go_region_held3 (fun w' : World => Below W2.heap.size W2 w' ∧ w'.cell? ⟨ag, ao + tn, none⟩ = some (.slice (some ⟨g2, o2, none⟩) L c2) ∧ w'.cell? ⟨g2, o2 + nxi, none⟩ = some (.bool b) ∧ w'.cell? ⟨bL, 0, none⟩ = some (.slice a3 p1 cap3) ∧ w'.cell? ⟨bL, 1, none⟩ = some (.slice a4 p2 cap4)) (first | exact hCw.out _ (Below.refl _ _).drew | exact hS9.out) (
                (go_at_call 53; refine (HNT.out _ (And.left (by assumption))).mono ?_; rintro e w9 ⟨rfl, hb9⟩; have hS9 := Lib.hid (hCu.out _ _ (by assumption) hb9); clear hb9))
              all_goals (
                have HBy := Lib.hid (HBx.out.trans (hS9.out.1.mono HBx.out.size))
                clear hS9
                go_wp2
                go_roundw
                case rel => first | exact ⟨b, St, j + 1, rfl, rfl, rfl, by omega, HF', HBy⟩ | ((repeat apply Exists.intro); exact ⟨⟨b, St, j + 1, rfl, rfl, rfl, by omega, HF', HBy⟩, rfl⟩)
                case measure => simp [intOf]; omega)
          · have HBz : Hid (Below W0.heap.size W0 W2) := HBr.out.trans (HBx.out.mono HBr.out.size)
            cases F with
            | false =>
              have HK' : Hid (R = (ys.drop (k + 1)).any (fitM run l n i own)) := by
                show _ = _
                have : FM = false := by rw [HF.out]; simp
                rw [HKK.out, this, Bool.false_or]
              have hcs : (j : Int) < (n5 : Int) ∨ (decide ((j : Int) < (n5 : Int)) = false ∧ ¬ j < n5) := by
                by_cases h : j < n5
                · exact .inl (by omega)
                · exact .inr ⟨decide_eq_false (by omega), h⟩
              clear hjn HF
              rcases hcs with hjl | ⟨hjl, hjl2⟩
              all_goals
                go_wp2
                exact ⟨⟨k + 1, rfl, by omega, HK', HBz⟩, by simp [intOf]; omega⟩
            | true =>
              have hjl : ¬ j < n5 := fun h => hjn ⟨h, rfl⟩
              have hjl' : decide ((j : Int) < (n5 : Int)) = false := decide_eq_false (by omega)
              have hfm : FM = (St == own) := by rw [HF.out, List.drop_eq_nil_of_le (by rw [HN5.out]; omega)]; simp
              by_cases hso : St = own
              · subst hso
                have hres : R = true := by rw [HKK.out, hfm]; simp
                have HRES := Lib.hid hres
                clear hjn HF hfm hres
                go_wp2
                go_ret
                rw [HRES.out]
                exact ⟨rfl, HB2.out⟩
              · have HK' : Hid (R = (ys.drop (k + 1)).any (fitM run l n i own)) := by
                  show _ = _
                  have : FM = false := by rw [hfm]; simpa using hso
                  rw [HKK.out, this, Bool.false_or]
                have hsb : (St == own) = false := by simpa using hso
                clear hjn HF hfm
                go_wp2
                exact ⟨⟨k + 1, rfl, by omega, HK', HBz⟩, by simp [intOf]; omega⟩)
    · have hkp' : decide ((k : Int) < (p : Int)) = false := decide_eq_false (by omega)
      have hres : R = false := by
        rw [HK.out, List.drop_eq_nil_of_le (by rw [HPL.out]; omega)]; rfl
      go_wp2
      go_ret
      rw [hres]
      exact ⟨rfl, HB1.out⟩
end Go.Proofs.YtelanndleinabaaDoor
end
section
/- What lies in memory while the runs are reckoned. -/
namespace Go.Proofs.YtelanndleinabaaDoor
open Go.RowKit
set_option linter.unusedVariables false

theorem Tryd.info61 : (Tryd.prog.info? 61).map (fun i => (i.zero, i.size, i.bytes)) = some (some (.slice none 0 0), 1, 24) := by kernel_rfl
def bools (L : Nat) (f : Nat → Bool) : List Value := (List.range L).map fun j => .bool (f j)
theorem bools_len (L : Nat) (f : Nat → Bool) : (bools L f).length = L := by simp [bools]
theorem bools_at {L j : Nat} (f : Nat → Bool) (h : j < L) : (bools L f)[j]? = some (.bool (f j)) := by simp [bools, h]
def updB (f : Nat → Bool) (i : Nat) (b : Bool) : Nat → Bool := fun j => if j = i then b else f j
theorem bools_set {L i : Nat} (f : Nat → Bool) (b : Bool) : (bools L f).set i (.bool b) = bools L (updB f i b) := by
  apply List.ext_getElem?
  intro j
  rw [List.getElem?_set, bools_len]
  by_cases hj : j < L
  · rw [bools_at _ hj, bools_at _ hj]
    unfold updB
    by_cases h : i = j
    · subst h; simp [hj]
    · rw [if_neg h, if_neg (fun e => h e.symm)]
  · have h1 : (bools L (updB f i b))[j]? = none := List.getElem?_eq_none (by rw [bools_len]; omega)
    have h2 : (bools L f)[j]? = none := List.getElem?_eq_none (by rw [bools_len]; omega)
    rw [h1, h2]
    split
    · rw [if_neg (by omega)]
    · rfl
theorem bools_congr {L : Nat} {f g : Nat → Bool} (h : ∀ j, j < L → f j = g j) : bools L f = bools L g := by
  unfold bools
  exact List.map_congr_left fun j hj => by rw [h j (List.mem_range.1 hj)]
def part (i : Nat) (g : Nat → Bool) : Nat → Bool := fun j => decide (j < i) && g j
theorem part_zero (g : Nat → Bool) : part 0 g = fun _ => false := by funext j; simp [part]
theorem part_next (i : Nat) (g : Nat → Bool) : updB (part i g) i (g i) = part (i + 1) g := by
  funext j
  unfold updB part
  by_cases h : j = i
  · subst h; simp
  · rw [if_neg h]
    have : decide (j < i) = decide (j < i + 1) := decide_eq_decide.2 (by omega)
    rw [this]
theorem bools_part (L : Nat) (g : Nat → Bool) : bools L (part L g) = bools L g := bools_congr fun j hj => by simp [part, hj]
theorem bools_made (L : Nat) : (madeCells #[Value.bool false] L).toList = bools L (fun _ => false) := by
  rw [toList_madeCells_one]
  apply List.ext_getElem?
  intro j
  by_cases hj : j < L
  · rw [bools_at _ hj]; simp [hj]
  · rw [List.getElem?_eq_none (by simp; omega), List.getElem?_eq_none (by rw [bools_len]; omega)]
def tabV (rb : Nat → Nat) (n N L : Nat) : List Value := (List.range N).map fun t => if t < n then .slice (some ⟨rb t, 0, none⟩) L L else .slice none 0 0
theorem tabV_len (rb : Nat → Nat) (n N L : Nat) : (tabV rb n N L).length = N := by simp [tabV]
theorem tabV_at {rb : Nat → Nat} {n N L t : Nat} (h : t < N) : (tabV rb n N L)[t]? = some (if t < n then .slice (some ⟨rb t, 0, none⟩) L L else .slice none 0 0) := by simp [tabV, h]
theorem tabV_made (rb : Nat → Nat) (N L : Nat) : (madeCells #[Value.slice none 0 0] N).toList = tabV rb 0 N L := by
  rw [toList_madeCells_one]
  apply List.ext_getElem?
  intro j
  by_cases hj : j < N
  · rw [tabV_at hj]; simp [hj]
  · rw [List.getElem?_eq_none (by simp; omega), List.getElem?_eq_none (by rw [tabV_len]; omega)]
theorem tabV_next {rb : Nat → Nat} {n N L b : Nat} (h : n < N) : (tabV rb n N L).set n (.slice (some ⟨b, 0, none⟩) L L) = tabV (fun t => if t = n then b else rb t) (n + 1) N L := by
  apply List.ext_getElem?
  intro j
  rw [List.getElem?_set, tabV_len]
  by_cases hj : j < N
  · rw [tabV_at hj, tabV_at hj]
    by_cases e : n = j
    · subst e; simp [hj]
    · rw [if_neg e]
      by_cases hjn : j < n
      · rw [if_pos hjn, if_pos (by omega), if_neg (fun x => e x.symm)]
      · rw [if_neg hjn, if_neg (by omega)]
  · have h1 : (tabV rb n N L)[j]? = none := List.getElem?_eq_none (by rw [tabV_len]; omega)
    have h2 : (tabV (fun t => if t = n then b else rb t) (n + 1) N L)[j]? = none := List.getElem?_eq_none (by rw [tabV_len]; omega)
    rw [h1, h2]
    split
    · exfalso; omega
    · rfl
theorem holds_made {w : World} {base g n : Nat} {e : TypeId} {xs : List Value} (h : w.ownsRow base e 1 (.slice (some ⟨g, 0, none⟩) n n) n xs) : Holds w g e xs := by
  rcases h.2 with ⟨h0, _⟩ | ⟨g', cap, cur, hv, _, hh, _, _, hs, ht⟩
  · cases h0
  · injection hv with h1 h2 h3
    injection h1 with h1
    injection h1 with h1
    subst h1 h3
    have : cur.toList = xs := by rw [← ht, List.take_of_length_le (by simp; omega)]
    unfold Holds
    rw [hh, ← this]

/-- At a state n of the runs: the rows below n are filled. -/
structure RnW (bA bL bR : Nat) (ca cl : List Value) (N L n : Nat) (run : Nat → Nat → Bool) (rb : Nat → Nat) (w0 w : World) : Prop where
  a : Holds w bA 39 ca
  l : Holds w bL 28 cl
  t : Holds w bR 61 (tabV rb n N L)
  r : ∀ t, t < n → Holds w (rb t) 4 (bools L (run t))
  below : Below w0.heap.size w0 w
  bt : w0.heap.size ≤ bR
/-- Within a state n: its row b1, and what it may do at each place: b2 leaves, b3 stays. -/
structure RnI (bA bL bR b1 b2 b3 : Nat) (ca cl : List Value) (N L n : Nat) (run : Nat → Nat → Bool) (rb : Nat → Nat) (f1 f2 f3 : Nat → Bool) (w0 w : World) : Prop where
  a : Holds w bA 39 ca
  l : Holds w bL 28 cl
  t : Holds w bR 61 (tabV rb (n + 1) N L)
  r : ∀ t, t < n → Holds w (rb t) 4 (bools L (run t))
  x1 : Holds w b1 4 (bools L f1)
  x2 : Holds w b2 4 (bools L f2)
  x3 : Holds w b3 4 (bools L f3)
  below : Below w0.heap.size w0 w
  bt : w0.heap.size ≤ bR
  is : rb n = b1
  d0 : ∀ t, t < n → rb t < b1
  d1 : b1 < b2
  d2 : b2 < b3
  dw : w0.heap.size ≤ b1
section
variable {bA bL bR b1 b2 b3 : Nat} {ca cl : List Value} {N L n : Nat} {run : Nat → Nat → Bool} {rb : Nat → Nat} {f1 f2 f3 : Nat → Bool} {w0 w w' : World}
theorem RnI.step (h : RnI bA bL bR b1 b2 b3 ca cl N L n run rb f1 f2 f3 w0 w) (hb : Below w.heap.size w w') : RnI bA bL bR b1 b2 b3 ca cl N L n run rb f1 f2 f3 w0 w' :=
  ⟨h.a.belowAll hb, h.l.belowAll hb, h.t.belowAll hb, fun t ht => (h.r t ht).belowAll hb, h.x1.belowAll hb, h.x2.belowAll hb, h.x3.belowAll hb, h.below.trans (hb.mono h.below.size), h.bt, h.is, h.d0, h.d1, h.d2, h.dw⟩
theorem RnI.drew (h : RnI bA bL bR b1 b2 b3 ca cl N L n run rb f1 f2 f3 w0 w) : RnI bA bL bR b1 b2 b3 ca cl N L n run rb f1 f2 f3 w0 w.drew :=
  ⟨h.a, h.l, h.t, h.r, h.x1, h.x2, h.x3, Below.drew h.below, h.bt, h.is, h.d0, h.d1, h.d2, h.dw⟩
theorem RnI.put1 (h : RnI bA bL bR b1 b2 b3 ca cl N L n run rb f1 f2 f3 w0 w) (i : Nat) (b : Bool) : RnI bA bL bR b1 b2 b3 ca cl N L n run rb (updB f1 i b) f2 f3 w0 (w.setCell ⟨b1, i, none⟩ (.bool b)) := by
  have d1 := h.d1
  have d2 := h.d2
  have ea := h.a.ne_of_type h.x1 (by decide)
  have el := h.l.ne_of_type h.x1 (by decide)
  have et := h.t.ne_of_type h.x1 (by decide)
  exact ⟨h.a.far (p := ⟨b1, i, none⟩) ea _, h.l.far (p := ⟨b1, i, none⟩) el _, h.t.far (p := ⟨b1, i, none⟩) et _, fun t ht => (h.r t ht).far (p := ⟨b1, i, none⟩) (by have := h.d0 t ht; show rb t ≠ b1; omega) _, (h.x1.put i (.bool b)).to (bools_set f1 b),
    h.x2.far (p := ⟨b1, i, none⟩) (by show b2 ≠ b1; omega) _, h.x3.far (p := ⟨b1, i, none⟩) (by show b3 ≠ b1; omega) _, h.below.setCell (p := ⟨b1, i, none⟩) h.dw _, h.bt, h.is, h.d0, h.d1, h.d2, h.dw⟩
theorem RnI.put2 (h : RnI bA bL bR b1 b2 b3 ca cl N L n run rb f1 f2 f3 w0 w) (i : Nat) (b : Bool) : RnI bA bL bR b1 b2 b3 ca cl N L n run rb f1 (updB f2 i b) f3 w0 (w.setCell ⟨b2, i, none⟩ (.bool b)) := by
  have d1 := h.d1
  have d2 := h.d2
  have dw := h.dw
  have ea := h.a.ne_of_type h.x2 (by decide)
  have el := h.l.ne_of_type h.x2 (by decide)
  have et := h.t.ne_of_type h.x2 (by decide)
  exact ⟨h.a.far (p := ⟨b2, i, none⟩) ea _, h.l.far (p := ⟨b2, i, none⟩) el _, h.t.far (p := ⟨b2, i, none⟩) et _, fun t ht => (h.r t ht).far (p := ⟨b2, i, none⟩) (by have := h.d0 t ht; show rb t ≠ b2; omega) _, h.x1.far (p := ⟨b2, i, none⟩) (by show b1 ≠ b2; omega) _,
    (h.x2.put i (.bool b)).to (bools_set f2 b), h.x3.far (p := ⟨b2, i, none⟩) (by show b3 ≠ b2; omega) _, h.below.setCell (p := ⟨b2, i, none⟩) (by show w0.heap.size ≤ b2; omega) _, h.bt, h.is, h.d0, h.d1, h.d2, h.dw⟩
theorem RnI.put3 (h : RnI bA bL bR b1 b2 b3 ca cl N L n run rb f1 f2 f3 w0 w) (i : Nat) (b : Bool) : RnI bA bL bR b1 b2 b3 ca cl N L n run rb f1 f2 (updB f3 i b) w0 (w.setCell ⟨b3, i, none⟩ (.bool b)) := by
  have d1 := h.d1
  have d2 := h.d2
  have dw := h.dw
  have ea := h.a.ne_of_type h.x3 (by decide)
  have el := h.l.ne_of_type h.x3 (by decide)
  have et := h.t.ne_of_type h.x3 (by decide)
  exact ⟨h.a.far (p := ⟨b3, i, none⟩) ea _, h.l.far (p := ⟨b3, i, none⟩) el _, h.t.far (p := ⟨b3, i, none⟩) et _, fun t ht => (h.r t ht).far (p := ⟨b3, i, none⟩) (by have := h.d0 t ht; show rb t ≠ b3; omega) _, h.x1.far (p := ⟨b3, i, none⟩) (by show b1 ≠ b3; omega) _,
    h.x2.far (p := ⟨b3, i, none⟩) (by show b2 ≠ b3; omega) _, (h.x3.put i (.bool b)).to (bools_set f3 b), h.below.setCell (p := ⟨b3, i, none⟩) (by show w0.heap.size ≤ b3; omega) _, h.bt, h.is, h.d0, h.d1, h.d2, h.dw⟩
theorem RnI.tab (h : RnI bA bL bR b1 b2 b3 ca cl N L n run rb f1 f2 f3 w0 w) (hn : n < N) : TabR w.heap.size w (.slice (some ⟨bR, 0, none⟩) N N) N L n run := by
  refine ⟨bR, 0, N, rfl, Nat.le_refl _, h.t.lt, fun t ht => ⟨rb t, 0, L, ?_, Nat.le_refl _, (h.r t ht).lt, fun j hj => ?_⟩⟩
  · rw [Nat.zero_add, h.t.cell, tabV_at (by omega), if_pos (by omega)]
  · rw [Nat.zero_add, (h.r t ht).cell, bools_at _ hj]
theorem RnI.congr {g1 g2 g3 : Nat → Bool} (h : RnI bA bL bR b1 b2 b3 ca cl N L n run rb f1 f2 f3 w0 w) (e1 : bools L f1 = bools L g1) (e2 : bools L f2 = bools L g2) (e3 : bools L f3 = bools L g3) : RnI bA bL bR b1 b2 b3 ca cl N L n run rb g1 g2 g3 w0 w :=
  ⟨h.a, h.l, h.t, h.r, e1 ▸ h.x1, e2 ▸ h.x2, e3 ▸ h.x3, h.below, h.bt, h.is, h.d0, h.d1, h.d2, h.dw⟩
theorem RnI.close (h : RnI bA bL bR b1 b2 b3 ca cl N L n run rb (part L (run n)) f2 f3 w0 w) : RnW bA bL bR ca cl N L (n + 1) run rb w0 w :=
  ⟨h.a, h.l, h.t, fun t ht => by
    by_cases e : t = n
    · subst e; rw [h.is]; exact bools_part L (run t) ▸ h.x1
    · exact h.r t (by omega), h.below, h.bt⟩
theorem RnW.tab (h : RnW bA bL bR ca cl N L n run rb w0 w) (hn : n = N) : TabR w.heap.size w (.slice (some ⟨bR, 0, none⟩) N N) N L N run := by
  subst hn
  refine ⟨bR, 0, n, rfl, Nat.le_refl _, h.t.lt, fun t ht => ⟨rb t, 0, L, ?_, Nat.le_refl _, (h.r t ht).lt, fun j hj => ?_⟩⟩
  · rw [Nat.zero_add, h.t.cell, tabV_at ht, if_pos ht]
  · rw [Nat.zero_add, (h.r t ht).cell, bools_at _ hj]
/-- A state's three rows are made. -/
theorem RnW.open {wa wb wc wd : World} (h : RnW bA bL bR ca cl N L n run rb w0 w) (hn : n < N)
    (o1 : wa.ownsRow w0.heap.size 4 1 (.slice (some ⟨w.heap.size, 0, none⟩) L L) L (bools L (fun _ => false))) (g1 : w.grownBy wa none)
    (e1 : wb = wa.setCell ⟨bR, n, none⟩ (.slice (some ⟨w.heap.size, 0, none⟩) L L))
    (eb : wb.heap.size = b2) (o2 : wc.ownsRow w0.heap.size 4 1 (.slice (some ⟨b2, 0, none⟩) L L) L (bools L (fun _ => false))) (g2 : wb.grownBy wc none)
    (o3 : wd.ownsRow w0.heap.size 4 1 (.slice (some ⟨wc.heap.size, 0, none⟩) L L) L (bools L (fun _ => false))) (g3 : wc.grownBy wd none) :
    RnI bA bL bR w.heap.size b2 wc.heap.size ca cl N L n run (fun t => if t = n then w.heap.size else rb t) (fun _ => false) (fun _ => false) (fun _ => false) w0 wd := by
  have k1 : ∀ {g t cs}, Holds w g t cs → Holds wa g t cs := fun hh => hh.of_eq (g1.block _ hh.lt (by simp))
  have k2 : ∀ {g t cs}, Holds wb g t cs → Holds wc g t cs := fun hh => hh.of_eq (g2.block _ hh.lt (by simp))
  have k3 : ∀ {g t cs}, Holds wc g t cs → Holds wd g t cs := fun hh => hh.of_eq (g3.block _ hh.lt (by simp))
  have hx1 := holds_made o1
  have ht1 := k1 h.t
  have hta := (k1 h.a).ne_of_type ht1 (by decide)
  have htl := (k1 h.l).ne_of_type ht1 (by decide)
  have htx := hx1.ne_of_type ht1 (by decide)
  have kb : ∀ {g t cs}, g ≠ bR → Holds wa g t cs → Holds wb g t cs := fun hne hh => by rw [e1]; exact hh.far (p := ⟨bR, n, none⟩) hne _
  have htb : Holds wb bR 61 (tabV (fun t => if t = n then w.heap.size else rb t) (n + 1) N L) := by
    rw [e1]; exact (ht1.put n _).to (tabV_next hn)
  have hx1b := kb htx hx1
  have hx2 := holds_made o2
  have hx3 := holds_made o3
  refine ⟨k3 (k2 (kb hta (k1 h.a))), k3 (k2 (kb htl (k1 h.l))), k3 (k2 htb), fun t ht => ?_, k3 (k2 hx1b), k3 hx2, hx3, ?_, h.bt, by simp, fun t ht => ?_, by rw [← eb]; exact hx1b.lt, hx2.lt, h.below.size⟩
  · have hr := k1 (h.r t ht)
    have hne := hr.ne_of_type ht1 (by decide)
    show Holds wd (if t = n then w.heap.size else rb t) 4 _
    rw [if_neg (by omega)]
    exact k3 (k2 (kb hne hr))
  · have b1 := h.below.grown g1 h.below.size (fun k e => by cases e)
    have b2 : Below w0.heap.size w0 wb := by rw [e1]; exact b1.setCell (p := ⟨bR, n, none⟩) h.bt _
    have b3 := b2.grown g2 b2.size (fun k e => by cases e)
    exact b3.grown g3 b3.size (fun k e => by cases e)
  · show (if t = n then w.heap.size else rb t) < w.heap.size
    rw [if_neg (by omega)]
    exact (h.r t ht).lt
end
end Go.Proofs.YtelanndleinabaaDoor
end
section
/- The walk of sextantref11.Runs. -/
namespace Go.Proofs.YtelanndleinabaaDoor
open Go.RowKit
set_option linter.unusedVariables false

attribute [local irreducible] wpStill
def RunsOut (a : Alt) (l : Las) (w : World) (e : Ending) (w' : World) : Prop :=
  ∃ g, e = .returned (.slice (some ⟨g, 0, none⟩) a.states.length a.states.length) ∧ TabR w'.heap.size w' (.slice (some ⟨g, 0, none⟩) a.states.length a.states.length) a.states.length (plN l) a.states.length (runB a.states l) ∧ Below w.heap.size w w'
theorem las_pl {l : Las} (hlc : lasCode l = 0) : 0 < plN l ∧ plN l ≤ 4096 := by unfold lasCode at hlc; unfold plN; split at hlc <;> omega
theorem altOk_sizes {a : Alt} (h : altOk a = true) : a.states.length ≤ 4096 ∧ a.init.length ≤ 131072 ∧ movesN a.states ≤ 131072 := by
  unfold altOk at h
  simp only [Bool.and_eq_true, decide_eq_true_eq] at h
  exact ⟨h.1.1.1.1, h.1.1.1.2, h.2⟩

set_option maxHeartbeats 8000000 in
set_option maxRecDepth 100000 in
theorem runsFn11 (a : Alt) (l : Las) (va vl : Value) (w : World) (hA : AltAt w.heap.size w va a) (hl : LasAt w.heap.size w vl l) (hok : altOk a = true) (hlc : lasCode l = 0) :
    Calls Tryd.prog 35 #[va, vl] w fun e w' => RunsOut a l w e w' := by
  have hto := altOk_toOk hok
  obtain ⟨hp0, hp4⟩ := las_pl hlc
  obtain ⟨hN4, _, hM4⟩ := altOk_sizes hok
  have HA := Lib.hid hA
  have HLAS := Lib.hid hl
  obtain ⟨va1, va2, rfl, hA1, hA2⟩ := hA
  obtain ⟨a1, cap1, rfl, hc1, hm1⟩ := hA1.form
  obtain ⟨a2, cap2, rfl, hc2, hm2⟩ := hA2.form
  obtain ⟨vp, vq, rfl, hp, hq⟩ := hl
  obtain ⟨a3, cap3, rfl, hc3, hm3⟩ := hp.form
  obtain ⟨a4, cap4, rfl, hc4, hm4⟩ := hq.form
  obtain ⟨run, hrun⟩ : ∃ run, runB a.states l = run := ⟨_, rfl⟩
  obtain ⟨N, hNe⟩ : ∃ N, a.states.length = N := ⟨_, rfl⟩
  obtain ⟨q, hqe⟩ : ∃ q, a.init.length = q := ⟨_, rfl⟩
  obtain ⟨p1, hp1⟩ : ∃ p1, l.pre.length = p1 := ⟨_, rfl⟩
  obtain ⟨p2, hp2⟩ : ∃ p2, l.loop.length = p2 := ⟨_, rfl⟩
  obtain ⟨L, hL⟩ : ∃ L, plN l = L := ⟨_, rfl⟩
  have HSTEP : Hid (∀ (n i : Nat) (own : Bool) (vr : Value) (w' : World), n < N → i < L → Below w.heap.size w w' → TabR w'.heap.size w' vr N L n run →
      Calls Tryd.prog 52 #[.agg #[.slice a1 q cap1, .slice a2 N cap2], .agg #[.slice a3 p1 cap3, .slice a4 p2 cap4], vr, .int .i64 (n : Int), .int .i64 (i : Int), .bool own] w' fun e w'' => e = .returned (.bool (stepB run a.states l n i own)) ∧ Below w'.heap.size w' w'') := by
    intro n i own vr w' h1 h2 h3 h4
    have := stepFn11 a l _ _ vr n i own run w' ((HA.out.below h3).mono h3.size) ((HLAS.out.below h3).mono h3.size) (by rw [hNe, hL]; exact h4) hlc (by rw [hL]; exact h2) (by rw [hNe]; exact h1) hN4 (by omega) hto
    rw [hqe, hNe, hp1, hp2] at this
    exact this
  have HNEXT : Hid (∀ (i : Nat) (w' : World), i < L → Below w.heap.size w w' → Calls Tryd.prog 53 #[.agg #[.slice a3 p1 cap3, .slice a4 p2 cap4], .int .i64 (i : Int)] w' fun e w'' => e = .returned (.int .i64 ((nx l i : Nat) : Int)) ∧ Below w'.heap.size w' w'') := by
    intro i w' h2 h3
    have := nextFn l _ i w' ((HLAS.out.below h3).mono h3.size) (by rw [hL]; exact h2) hp4
    rw [hp1, hp2] at this
    exact this
  have HNL : Hid (∀ j, j < L → nx l j < L) := fun j hj => by have := nx_lt hlc (by rw [hL]; exact hj); rwa [hL] at this
  have HROW : Hid (∀ n i, run n i = runGo (fun j => stepB run a.states l n j false) (fun j => stepB run a.states l n j true) (nx l) (finOf a.states n) (L + 1) i) := fun n i => by
    rw [← hrun, runB_row hto]
    unfold rowOf
    rw [hL]
  have HY : Hid (RowS w.heap.size w (.slice a2 N cap2) a.states) := by rw [← hNe]; exact hA2
  unfold RunsOut
  rw [hNe, hqe, hp1, hp2, hL, hrun]
  rw [hNe] at hc2 hN4
  rw [hqe] at hc1
  rw [hp1] at hc3
  rw [hp2] at hc4
  rw [hL] at hp0 hp4
  have HN := Lib.hid hNe
  have hsz : p1 + p2 = L := by rw [← hp1, ← hp2, ← hL]; rfl
  have hwsz : IntKind.i64.wrap ((p1 : Int) + (p2 : Int)) = (L : Int) := wrap_add hsz (by omega)
  have hB0 : Below w.heap.size w ((w.alloc (.cells #[.slice a1 q cap1, .slice a2 N cap2] 39)).alloc (.cells #[.slice a3 p1 cap3, .slice a4 p2 cap4] 28)) := ((Below.refl _ _).alloc (Nat.le_refl _) _).alloc (by simp) _
  have hG0 := (Holds.new w 39 #[.slice a1 q cap1, .slice a2 N cap2]).alloc (.cells #[.slice a3 p1 cap3, .slice a4 p2 cap4] 28)
  have hL0 : Holds ((w.alloc (.cells #[.slice a1 q cap1, .slice a2 N cap2] 39)).alloc (.cells #[.slice a3 p1 cap3, .slice a4 p2 cap4] 28)) (w.heap.size + 1) 28 [.slice a3 p1 cap3, .slice a4 p2 cap4] := holds_at (k := w.heap.size + 1) (by simp) 28 #[.slice a3 p1 cap3, .slice a4 p2 cap4]
  have x1 := hG0.cell 1
  have y0 := hL0.cell 0
  have y1 := hL0.cell 1
  simp only [List.getElem?_cons_zero, List.getElem?_cons_succ] at x1 y0 y1
  have HB0 := Lib.hid hB0
  have HG0 := Lib.hid hG0
  have HL0 := Lib.hid hL0
  clear hA1 hA2 hp hq hNe hqe hp1 hp2 hL hsz hrun hok hlc hto hM4 hB0 hG0 hL0
  obtain ⟨i0, hi0, hz0, hz1, hz2⟩ := info_parts Tryd.info61
  obtain ⟨i4, hi4, hy0, hy1, hy2⟩ := info_parts Tryd.info4
  have hN9 : N ≤ 9223372036854775807 := by omega
  have hL9 : L ≤ 9223372036854775807 := by omega
  go_enter Tryd.func35, Tryd.ntmps35
  go_wp2_with (at_make; refine wpList_make_full _ rfl (.tmp 23) (.tmp 23) 90 rfl w.heap.size 61 i0 (.slice none 0 0) 1 Tryd.underlying90 hi0 hz0 hz1 .i64 .i64 _ _ N rfl rfl rfl rfl ?b1 ?b2 ?b3 ?_)
  case b1 => omega
  case b2 => unfold maxLen; omega
  case b3 => omega
  intro w1 hown hg
  rw [tabV_made (fun _ => 0) N L] at hown
  have hW1 : RnW w.heap.size (w.heap.size + 1) (w.heap.size + 1 + 1) [.slice a1 q cap1, .slice a2 N cap2] [.slice a3 p1 cap3, .slice a4 p2 cap4] N L 0 run (fun _ => 0) w w1 :=
    ⟨HG0.out.of_eq (hg.block _ HG0.out.lt (by simp)), HL0.out.of_eq (hg.block _ HL0.out.lt (by simp)), holds_made hown, (fun t ht => by omega), HB0.out.grown hg HB0.out.size (fun k e => by cases e), by omega⟩
  generalize ((w.alloc (.cells #[.slice a1 q cap1, .slice a2 N cap2] 39)).alloc (.cells #[.slice a3 p1 cap3, .slice a4 p2 cap4] 28)) = W0 at *
  generalize hbL : w.heap.size + 1 = bL at *
  generalize hbR : bL + 1 = bR at *
  have HW1 := Lib.hid hW1
  clear hown hg HB0 HG0 HL0 x1 y0 y1 hW1
  go_wp2
  go_loopw [7] (fun y wr => ∃ (n : Nat) (rb : Nat → Nat), y = .int .i64 (n : Int) ∧ n ≤ N ∧ Hid (RnW w.heap.size bL bR [.slice a1 q cap1, .slice a2 N cap2] [.slice a3 p1 cap3, .slice a4 p2 cap4] N L n run rb w wr)) (fun y _ => (N + 10 - intOf y).toNat)
  case atStart => exact ⟨0, _, rfl, Nat.zero_le _, HW1⟩
  case round =>
    clear HW1
    obtain ⟨n, rb, rfl, hn, HW⟩ := hrel
    obtain ⟨W1, rfl⟩ : ∃ W, W = wr := ⟨wr, rfl⟩
    have x1 := HW.out.a.cell 1
    simp only [List.getElem?_cons_zero, List.getElem?_cons_succ] at x1
    have hsz1 := HW.out.below.size
    by_cases hnN : n < N
    · have hnN' : (n : Int) < (N : Int) := by omega
      obtain ⟨gb, o, u, rfl, hgb, e0, _, _⟩ := HY.out.at (k := n) (by rw [HN.out]; exact hnN)
      have hfin : (a.states[n]'(by rw [HN.out]; exact hnN)).1 = finOf a.states n := by
        unfold finOf
        rw [List.getD_eq_getElem?_getD, List.getElem?_eq_getElem (by rw [HN.out]; exact hnN)]; rfl
      rw [hfin] at e0
      obtain ⟨F, hF⟩ : ∃ F, finOf a.states n = F := ⟨_, rfl⟩
      rw [hF] at e0
      have HE0 := Lib.hid e0
      clear hfin e0
      go_wp2_with (at_make; refine wpList_make_full _ rfl (.tmp 34) (.tmp 34) 61 rfl w.heap.size 4 i4 (.bool false) 1 Tryd.underlying61 hi4 hy0 hy1 .i64 .i64 _ _ L rfl rfl rfl rfl ?c1 ?c2 ?c3 ?_)
      case c1 => rw [hy2]; omega
      case c2 => unfold maxLen; omega
      case c3 => omega
      intro wa hown1 hg1
      rw [bools_made] at hown1
      have hT1 : Holds wa bR 61 (tabV rb n N L) := HW.out.t.of_eq (hg1.block _ HW.out.t.lt (by simp))
      have t1 := hT1.cell n
      have t2 := hT1.free n
      rw [tabV_at hnN, if_neg (by omega)] at t1
      have hsa : w.heap.size ≤ wa.heap.size := (HW.out.below.grown hg1 HW.out.below.size (fun k e => by cases e)).size
      have HO1 := Lib.hid hown1
      have HG1 := Lib.hid hg1
      clear hown1 hg1 hT1
      go_wp2_with (at_make; refine wpList_make_full _ rfl (.tmp 37) (.tmp 37) 61 rfl w.heap.size 4 i4 (.bool false) 1 Tryd.underlying61 hi4 hy0 hy1 .i64 .i64 _ _ L rfl rfl rfl rfl ?d1 ?d2 ?d3 ?_)
      case d1 => rw [hy2]; omega
      case d2 => unfold maxLen; omega
      case d3 => simp [World.setCell]; omega
      intro wc hown2 hg2
      rw [bools_made] at hown2
      have hsc : w.heap.size ≤ wc.heap.size := by
        have := hg2.size
        simp [World.setCell] at this
        omega
      have HO2 := Lib.hid hown2
      have HG2 := Lib.hid hg2
      clear hown2 hg2 t1 t2
      go_wp2_with (at_make; refine wpList_make_full _ rfl (.tmp 39) (.tmp 39) 61 rfl w.heap.size 4 i4 (.bool false) 1 Tryd.underlying61 hi4 hy0 hy1 .i64 .i64 _ _ L rfl rfl rfl rfl ?e1 ?e2 ?e3 ?_)
      case e1 => rw [hy2]; omega
      case e2 => unfold maxLen; omega
      case e3 => omega
      intro wd hown3 hg3
      rw [bools_made] at hown3
      have HI := Lib.hid (HW.out.open hnN HO1.out HG1.out rfl (by simp [World.setCell]) HO2.out HG2.out hown3 hg3)
      clear HW x1 hsz1 HO1 HG1 HO2 HG2 hown3 hg3
      obtain ⟨b1, hb1⟩ : ∃ b1, W1.heap.size = b1 := ⟨_, rfl⟩
      obtain ⟨b2, hb2⟩ : ∃ b2, wa.heap.size = b2 := ⟨_, rfl⟩
      obtain ⟨b3, hb3⟩ : ∃ b3, wc.heap.size = b3 := ⟨_, rfl⟩
      obtain ⟨rb2, hrb2⟩ : ∃ rb2, (fun t => if t = n then W1.heap.size else rb t) = rb2 := ⟨_, rfl⟩
      rw [hrb2, hb1, hb2, hb3] at HI
      simp only [hb1, hb2, hb3]
      clear hb1 hb2 hb3 hrb2 hsa hsc
      obtain ⟨lv, hlv⟩ : ∃ lv, (fun j => stepB run a.states l n j false) = lv := ⟨_, rfl⟩
      obtain ⟨st, hst⟩ : ∃ st, (fun j => stepB run a.states l n j true) = st := ⟨_, rfl⟩
      have HRN : Hid (∀ i, run n i = runGo lv st (nx l) F (L + 1) i) := fun i => by rw [HROW.out n i, hlv, hst, hF]
      have HSL : Hid (∀ (i : Nat) (w' : World), i < L → Below w.heap.size w w' → TabR w'.heap.size w' (.slice (some ⟨bR, 0, none⟩) N N) N L n run →
        Calls Tryd.prog 52 #[.agg #[.slice a1 q cap1, .slice (some ⟨gb, o, none⟩) N cap2], .agg #[.slice a3 p1 cap3, .slice a4 p2 cap4], .slice (some ⟨bR, 0, none⟩) N N, .int .i64 (n : Int), .int .i64 (i : Int), .bool false] w' fun e w'' => e = .returned (.bool (lv i)) ∧ Below w'.heap.size w' w'') := fun i w' h1 h2 h3 => by
        rw [← hlv]; exact HSTEP.out n i false _ w' hnN h1 h2 h3
      have HSS : Hid (∀ (i : Nat) (w' : World), i < L → Below w.heap.size w w' → TabR w'.heap.size w' (.slice (some ⟨bR, 0, none⟩) N N) N L n run →
        Calls Tryd.prog 52 #[.agg #[.slice a1 q cap1, .slice (some ⟨gb, o, none⟩) N cap2], .agg #[.slice a3 p1 cap3, .slice a4 p2 cap4], .slice (some ⟨bR, 0, none⟩) N N, .int .i64 (n : Int), .int .i64 (i : Int), .bool true] w' fun e w'' => e = .returned (.bool (st i)) ∧ Below w'.heap.size w' w'') := fun i w' h1 h2 h3 => by
        rw [← hst]; exact HSTEP.out n i true _ w' hnN h1 h2 h3
      have HI0 : Hid (RnI w.heap.size bL bR b1 b2 b3 [.slice a1 q cap1, .slice (some ⟨gb, o, none⟩) N cap2] [.slice a3 p1 cap3, .slice a4 p2 cap4] N L n run rb2 (part 0 (run n)) (part 0 lv) (part 0 st) w wd) := by
        rw [part_zero, part_zero, part_zero]; exact HI.out
      clear hlv hst hF HI
      go_wp2
      go_loopw [10] (fun y wr => ∃ i : Nat, y = .int .i64 (i : Int) ∧ i ≤ L ∧ Hid (RnI w.heap.size bL bR b1 b2 b3 [.slice a1 q cap1, .slice (some ⟨gb, o, none⟩) N cap2] [.slice a3 p1 cap3, .slice a4 p2 cap4] N L n run rb2 (part 0 (run n)) (part i lv) (part i st) w wr)) (fun y _ => (L + 10 - intOf y).toNat)
      case atStart => exact ⟨0, rfl, Nat.zero_le _, HI0⟩
      case round =>
        clear HI0
        obtain ⟨i, rfl, hi, HI⟩ := hrel
        obtain ⟨W2, rfl⟩ : ∃ W, W = wr := ⟨wr, rfl⟩
        have x0 := HI.out.a.cell 0
        have x1 := HI.out.a.cell 1
        have y0 := HI.out.l.cell 0
        have y1 := HI.out.l.cell 1
        simp only [List.getElem?_cons_zero, List.getElem?_cons_succ] at x0 x1 y0 y1
        by_cases hiL : i < L
        · have hiL' : (i : Int) < (L : Int) := by omega
          go_wp2_with (fail)
          refine (HSL.out i _ hiL HI.out.below (HI.out.tab hnN)).mono ?_
          rintro e w5 ⟨rfl, hb5⟩
          have hI5 := HI.out.step hb5
          have z0 := hI5.x2.cell i
          have z1 := hI5.x2.free i
          rw [bools_at _ hiL] at z0
          have hI6 := hI5.put2 i (lv i)
          rw [part_next] at hI6
          have HI6 := Lib.hid hI6
          replace x0 := hI6.a.cell 0
          replace x1 := hI6.a.cell 1
          replace y0 := hI6.l.cell 0
          replace y1 := hI6.l.cell 1
          simp only [List.getElem?_cons_zero, List.getElem?_cons_succ] at x0 x1 y0 y1
          clear hI5 hI6 hb5 HI
          go_wp2_with (fail)
          refine (HSS.out i _ hiL HI6.out.below (HI6.out.tab hnN)).mono ?_
          rintro e w7 ⟨rfl, hb7⟩
          have hI7 := HI6.out.step hb7
          have v0 := hI7.x3.cell i
          have v1 := hI7.x3.free i
          rw [bools_at _ hiL] at v0
          have hI8 := hI7.put3 i (st i)
          rw [part_next] at hI8
          have HI8 := Lib.hid hI8
          clear hI7 hI8 hb7 HI6 x0 x1 y0 y1 z0 z1
          go_wp2
          exact ⟨⟨i + 1, rfl, by omega, HI8⟩, by simp [intOf]; omega⟩
        · have hiL' : decide ((i : Int) < (L : Int)) = false := decide_eq_false (by omega)
          have hie : i = L := by omega
          have HI1 : Hid (RnI w.heap.size bL bR b1 b2 b3 [.slice a1 q cap1, .slice (some ⟨gb, o, none⟩) N cap2] [.slice a3 p1 cap3, .slice a4 p2 cap4] N L n run rb2 (part 0 (run n)) lv st w W2) := by
            rw [hie] at HI
            exact HI.out.congr rfl (bools_part L lv) (bools_part L st)
          clear HI hie x0 x1 y0 y1
          go_wp2
          go_loopw [11] (fun y wr => ∃ i : Nat, y = .int .i64 (i : Int) ∧ i ≤ L ∧ Hid (RnI w.heap.size bL bR b1 b2 b3 [.slice a1 q cap1, .slice (some ⟨gb, o, none⟩) N cap2] [.slice a3 p1 cap3, .slice a4 p2 cap4] N L n run rb2 (part i (run n)) lv st w wr)) (fun y _ => (L + 10 - intOf y).toNat)
          case atStart => exact ⟨0, rfl, Nat.zero_le _, HI1⟩
          case round =>
            clear HI1
            obtain ⟨i, rfl, hi, HI⟩ := hrel
            obtain ⟨W3, rfl⟩ : ∃ W, W = wr := ⟨wr, rfl⟩
            by_cases hiL : i < L
            · have hiL' : (i : Int) < (L : Int) := by omega
              have HG0 : Hid (runGo lv st (nx l) F (L + 1 - 0) i = run n i) := (HRN.out i).symm
              go_wp2
              go_loopw [12, 13] (fun u v wr => ∃ p k : Nat, u = .int .i64 (p : Int) ∧ v = .int .i64 (k : Int) ∧ p < L ∧ k ≤ L + 1 ∧ Hid (runGo lv st (nx l) F (L + 1 - k) p = run n i) ∧ Hid (RnI w.heap.size bL bR b1 b2 b3 [.slice a1 q cap1, .slice (some ⟨gb, o, none⟩) N cap2] [.slice a3 p1 cap3, .slice a4 p2 cap4] N L n run rb2 (part i (run n)) lv st w wr)) (fun _ v _ => (L + 10 - intOf v).toNat)
              case atStart => exact ⟨i, 0, rfl, rfl, hiL, by omega, HG0, HI⟩
              case round =>
                clear HG0 HI
                obtain ⟨p, k, rfl, rfl, hp, hk, HG, HJ⟩ := hrel
                obtain ⟨W4, rfl⟩ : ∃ W, W = wr := ⟨wr, rfl⟩
                have hp' : (p : Int) < (L : Int) := by omega
                have x1 := HJ.out.a.cell 1
                have y0 := HJ.out.l.cell 0
                have y1 := HJ.out.l.cell 1
                have z2 := HJ.out.x2.cell p
                have z3 := HJ.out.x3.cell p
                have t0 := HJ.out.t.cell n
                simp only [List.getElem?_cons_zero, List.getElem?_cons_succ] at x1 y0 y1
                rw [bools_at _ hp] at z2 z3
                rw [tabV_at hnN, if_pos (by omega), HJ.out.is] at t0
                have f0 := (cell_below HJ.out.below hgb _).trans HE0.out
                by_cases hkL : k ≤ L
                · have hkL' : decide ((k : Int) ≤ (L : Int)) = true := decide_eq_true (by omega)
                  have hgo : runGo lv st (nx l) F (L + 1 - k) p = (lv p || (st p && runGo lv st (nx l) F (L + 1 - (k + 1)) (nx l p))) := by
                    rw [show L + 1 - k = (L - k) + 1 by omega, show L + 1 - (k + 1) = L - k by omega]; rfl
                  rw [HG.out] at hgo
                  cases hlp : lv p with
                  | true =>
                    rw [hlp] at z2 hgo
                    have HRES := Lib.hid (show run n i = true by rw [hgo]; rfl)
                    clear hgo
                    have hd := HJ.out.drew
                    have w0 := hd.x1.cell i
                    have w1 := hd.x1.free i
                    rw [bools_at _ hiL] at w0
                    have hI9 := hd.put1 i true
                    have hru : run n i = true := HRES.out
                    rw [← hru, part_next] at hI9
                    rw [hru] at hI9
                    have HI9 := Lib.hid hI9
                    clear hd hI9 HJ HG hru
                    have g1 : W4.drew.cell? ⟨w.heap.size, 1, none⟩ = some (.slice (some ⟨gb, o, none⟩) N cap2) := x1
                    have g2 : W4.drew.cell? ⟨b2, p, none⟩ = some (.bool true) := z2
                    have g3 : W4.drew.cell? ⟨bR, n, none⟩ = some (.slice (some ⟨b1, 0, none⟩) L L) := t0
                    have g4 : W4.drew.cell? ⟨gb, o + n * 2, none⟩ = some (.bool F) := f0
                    go_wp2
                    clear x1 y0 y1 z2 z3 t0 f0
                    refine region_tail 24 (by kernel_rfl) (by kernel_rfl) ?_
                    simp only [List.take_succ_cons, List.take_zero, List.drop_succ_cons, List.drop_zero]
                    repeat still_step
                    refine wpStill_nil ?_
                    go_wp2
                    exact ⟨⟨i + 1, rfl, by omega, HI9⟩, by simp [intOf]; omega⟩
                  | false =>
                    cases hsp : st p with
                    | true =>
                      rw [hlp, hsp] at hgo
                      rw [hlp] at z2
                      rw [hsp] at z3
                      have hG2 : runGo lv st (nx l) F (L + 1 - (k + 1)) (nx l p) = run n i := by rw [hgo]; simp
                      have HG2 := Lib.hid hG2
                      clear hgo hG2
                      go_wp2_with (fail)
                      refine (HNEXT.out p _ hp HJ.out.below).mono ?_
                      rintro e w9 ⟨rfl, hb9⟩
                      have HJ9 := Lib.hid (HJ.out.step hb9)
                      have hnp := HNL.out p hp
                      clear hb9 HJ HG x1 y0 y1 z2 z3 t0 f0
                      obtain ⟨p9, hp9⟩ : ∃ p9, nx l p = p9 := ⟨_, rfl⟩
                      rw [hp9] at HG2 hnp
                      simp only [hp9]
                      clear hp9
                      go_wp2
                      exact ⟨⟨p9, k + 1, rfl, rfl, hnp, by omega, HG2, HJ9⟩, by simp [intOf]; omega⟩
                    | false =>
                      rw [hlp, hsp] at hgo
                      rw [hlp] at z2
                      rw [hsp] at z3
                      have HRES := Lib.hid (show run n i = false by rw [hgo]; rfl)
                      clear hgo
                      have hgt : decide (L < k) = false := decide_eq_false (by omega)
                      have hgt2 : ¬ L < k := by omega
                      have hd := HJ.out.drew
                      have w0 := hd.x1.cell i
                      have w1 := hd.x1.free i
                      rw [bools_at _ hiL] at w0
                      have hI9 := hd.put1 i false
                      have hru : run n i = false := HRES.out
                      rw [← hru, part_next] at hI9
                      rw [hru] at hI9
                      have HI9 := Lib.hid hI9
                      clear hd hI9 HJ HG hru
                      have g1 : W4.drew.cell? ⟨w.heap.size, 1, none⟩ = some (.slice (some ⟨gb, o, none⟩) N cap2) := x1
                      have g2 : W4.drew.cell? ⟨b2, p, none⟩ = some (.bool false) := z2
                      have g3 : W4.drew.cell? ⟨bR, n, none⟩ = some (.slice (some ⟨b1, 0, none⟩) L L) := t0
                      have g4 : W4.drew.cell? ⟨gb, o + n * 2, none⟩ = some (.bool F) := f0
                      go_wp2
                      clear x1 y0 y1 z2 z3 t0 f0
                      refine region_tail 24 (by kernel_rfl) (by kernel_rfl) ?_
                      simp only [List.take_succ_cons, List.take_zero, List.drop_succ_cons, List.drop_zero]
                      repeat still_step
                      refine wpStill_nil ?_
                      go_wp2
                      exact ⟨⟨i + 1, rfl, by omega, HI9⟩, by simp [intOf]; omega⟩
                · have hkL' : decide ((k : Int) ≤ (L : Int)) = false := decide_eq_false (by omega)
                  have hkn : ¬ k ≤ L := hkL
                  have hgt : (L : Int) < (k : Int) := by omega
                  have hgt2 : L < k := by omega
                  have hgo : runGo lv st (nx l) F (L + 1 - k) p = (lv p || !F) := by
                    rw [show L + 1 - k = 0 by omega]; rfl
                  rw [HG.out] at hgo
                  cases hlp : lv p with
                  | true =>
                    rw [hlp] at z2 hgo
                    have HRES := Lib.hid (show run n i = true by rw [hgo]; rfl)
                    clear hgo
                    have hd := HJ.out.drew
                    have w0 := hd.x1.cell i
                    have w1 := hd.x1.free i
                    rw [bools_at _ hiL] at w0
                    have hI9 := hd.put1 i true
                    have hru : run n i = true := HRES.out
                    rw [← hru, part_next] at hI9
                    rw [hru] at hI9
                    have HI9 := Lib.hid hI9
                    clear hd hI9 HJ HG hru
                    have g1 : W4.drew.cell? ⟨w.heap.size, 1, none⟩ = some (.slice (some ⟨gb, o, none⟩) N cap2) := x1
                    have g2 : W4.drew.cell? ⟨b2, p, none⟩ = some (.bool true) := z2
                    have g3 : W4.drew.cell? ⟨bR, n, none⟩ = some (.slice (some ⟨b1, 0, none⟩) L L) := t0
                    have g4 : W4.drew.cell? ⟨gb, o + n * 2, none⟩ = some (.bool F) := f0
                    go_wp2
                    clear x1 y0 y1 z2 z3 t0 f0
                    refine region_tail 24 (by kernel_rfl) (by kernel_rfl) ?_
                    simp only [List.take_succ_cons, List.take_zero, List.drop_succ_cons, List.drop_zero]
                    repeat still_step
                    refine wpStill_nil ?_
                    go_wp2
                    exact ⟨⟨i + 1, rfl, by omega, HI9⟩, by simp [intOf]; omega⟩
                  | false =>
                    rw [hlp] at z2 hgo
                    rw [Bool.false_or] at hgo
                    have HRES := Lib.hid (show run n i = !F from hgo)
                    clear hgo
                    have hd := HJ.out.drew
                    have w0 := hd.x1.cell i
                    have w1 := hd.x1.free i
                    rw [bools_at _ hiL] at w0
                    have hI9 := hd.put1 i (!F)
                    have hru : run n i = (!F) := HRES.out
                    rw [← hru, part_next] at hI9
                    rw [hru] at hI9
                    have HI9 := Lib.hid hI9
                    clear hd hI9 HJ HG hru
                    have g1 : W4.drew.cell? ⟨w.heap.size, 1, none⟩ = some (.slice (some ⟨gb, o, none⟩) N cap2) := x1
                    have g2 : W4.drew.cell? ⟨b2, p, none⟩ = some (.bool false) := z2
                    have g3 : W4.drew.cell? ⟨bR, n, none⟩ = some (.slice (some ⟨b1, 0, none⟩) L L) := t0
                    have g4 : W4.drew.cell? ⟨gb, o + n * 2, none⟩ = some (.bool F) := f0
                    go_wp2
                    clear x1 y0 y1 z2 z3 t0 f0
                    refine region_tail 24 (by kernel_rfl) (by kernel_rfl) ?_
                    simp only [List.take_succ_cons, List.take_zero, List.drop_succ_cons, List.drop_zero]
                    repeat still_step
                    refine wpStill_nil ?_
                    go_wp2
                    exact ⟨⟨i + 1, rfl, by omega, HI9⟩, by simp [intOf]; omega⟩
            · have hiL' : decide ((i : Int) < (L : Int)) = false := decide_eq_false (by omega)
              have hie : i = L := by omega
              have HW2 : Hid (RnW w.heap.size bL bR [.slice a1 q cap1, .slice (some ⟨gb, o, none⟩) N cap2] [.slice a3 p1 cap3, .slice a4 p2 cap4] N L (n + 1) run rb2 w W3) := by
                rw [hie] at HI
                exact HI.out.close
              clear HI hie
              go_wp2
              exact ⟨⟨n + 1, rb2, rfl, by omega, HW2⟩, by simp [intOf]; omega⟩
    · have hnN' : decide ((n : Int) < (N : Int)) = false := decide_eq_false (by omega)
      have hnn : n = N := by omega
      have hT := HW.out.tab hnn
      have hB := HW.out.below
      have HTT := Lib.hid hT
      have HBB := Lib.hid hB
      clear hT hB
      go_wp2
      go_ret
      exact ⟨_, rfl, HTT.out, HBB.out⟩
end Go.Proofs.YtelanndleinabaaDoor
end
