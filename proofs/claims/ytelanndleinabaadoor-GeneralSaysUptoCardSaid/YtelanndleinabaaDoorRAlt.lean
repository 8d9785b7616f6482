/- RSet, RAlt, joined. -/
import Derived.Test.YtelanndleinabaaDoorASet
import Derived.Test.YtelanndleinabaaDoorAChk
section
/- The walk of sextantref11.Set. -/
namespace Go.Proofs.YtelanndleinabaaDoor
open Go.RowKit
set_option linter.unusedVariables false

theorem dr_more {w wr : World} (h : ∃ m, wr = w.drewN m) (n : Nat) : ∃ m, wr.drewN n = w.drewN m := by
  obtain ⟨m, rfl⟩ := h
  exact ⟨m + n, World.drewN_drewN ..⟩
theorem dr_cell {w wr : World} {p : Addr} {v : Value} (hc : w.cell? p = some v) (h : ∃ m, wr = w.drewN m) : wr.cell? p = some v := by
  obtain ⟨m, rfl⟩ := h
  exact drewN_cell hc m
theorem dr_holds {w wr : World} {g : Nat} {t : TypeId} {cs : List Value} (hc : Holds w g t cs) (h : ∃ m, wr = w.drewN m) : Holds wr g t cs := by
  obtain ⟨m, rfl⟩ := h
  exact hc
theorem dr_below {B : Nat} {a w wr : World} (hc : Below B a w) (h : ∃ m, wr = w.drewN m) : Below B a wr := by
  obtain ⟨m, rfl⟩ := h
  exact below_drewN' hc m

set_option maxHeartbeats 1000000 in
set_option maxRecDepth 100000 in
theorem refSet (most : Int) (v : Value) (xs : List Int) (w : World) (hv : RowI w.heap.size w v xs) (hmb : -9223372036854775808 ≤ most ∧ most ≤ 9223372036854775807) :
    Calls Tryd.prog 34 #[v, .int .i64 most] w fun e w' => e = .returned (.bool (setL xs most)) ∧ ∃ m, w' = w.drewN m := by
  obtain ⟨a, cap, rfl, hc, hm⟩ := hv.form
  obtain ⟨n, hn⟩ : ∃ n, xs.length = n := ⟨_, rfl⟩
  rw [hn] at hc ⊢
  obtain ⟨R, hR⟩ : ∃ R, R = setL xs most := ⟨_, rfl⟩
  rw [← hR]
  have HR : Hid (R = setFrom most none (xs.drop 0)) := hR
  clear hR
  have HN := Lib.hid hn
  have HV := Lib.hid hv
  clear hn hv
  go_enter Tryd.func34, Tryd.ntmps34
  go_wp2
  go_loopw [5] (fun x wr => ∃ k : Nat, x = .int .i64 (k : Int) ∧ k ≤ n ∧ Hid (R = setFrom most (if k = 0 then none else xs[k - 1]?) (xs.drop k)) ∧ Hid (∃ m, wr = w.drewN m)) (fun x _ => (n + 10 - intOf x).toNat)
  case atStart => exact ⟨0, rfl, Nat.zero_le _, HR, 0, rfl⟩
  case round =>
    clear HR
    obtain ⟨k, rfl, hk, HK, HDR⟩ := hrel
    by_cases hl : k < n
    · have hl' : (k : Int) < (n : Int) := by omega
      have hn := HN.out
      obtain ⟨y, hy⟩ : ∃ y, xs[k]? = some y := ⟨_, List.getElem?_eq_getElem (by omega)⟩
      obtain ⟨gb, o, rfl, hgb, hcell⟩ := HV.out.at (k := k) (by omega)
      have hyk : xs[k]'(by omega) = y := (List.getElem?_eq_some_iff.1 hy).2
      rw [hyk] at hcell
      replace hcell := dr_cell hcell HDR.out
      have HD := Lib.hid (drop_at hy)
      have HY := Lib.hid hy
      clear hyk hy
      by_cases h0 : y < 0
      · have hres : R = false := by rw [HK.out, HD.out, setFrom, decide_eq_false (by omega)]; rfl
        clear hn
        go_wp2
        go_quiet (fail)
        go_wp2
        go_ret
        rw [hres]
        exact ⟨rfl, dr_more HDR.out _⟩
      · have h0' : decide (y < 0) = false := decide_eq_false h0
        by_cases h1 : most < y
        · have hres : R = false := by rw [HK.out, HD.out, setFrom, decide_eq_true (show (0 : Int) ≤ y by omega), decide_eq_false (show ¬ y ≤ most by omega)]; rfl
          clear hn h0
          go_wp2
          go_quiet (fail)
          go_wp2
          go_ret
          rw [hres]
          exact ⟨rfl, dr_more HDR.out _⟩
        · have h1' : decide (most < y) = false := decide_eq_false h1
          rcases Nat.eq_zero_or_pos k with hk0 | hk0
          · have hk1 : decide ((0 : Int) < (k : Int)) = false := decide_eq_false (by omega)
            have hk2 : ¬ 0 < k := by omega
            have HK' : Hid (R = setFrom most (if k + 1 = 0 then none else xs[k + 1 - 1]?) (xs.drop (k + 1))) := by
              show _ = _
              rw [HK.out, HD.out, setFrom, decide_eq_true (show (0 : Int) ≤ y by omega), decide_eq_true (show y ≤ most by omega), if_pos hk0, if_neg (by omega), Nat.add_sub_cancel, HY.out]
              rfl
            clear hn h0 h1 hk0
            go_wp2
            go_quiet (fail)
            go_wp2
            exact ⟨⟨k + 1, rfl, by omega, HK', dr_more HDR.out _⟩, by simp [intOf]; omega⟩
          · have hk1 : (0 : Int) < (k : Int) := by omega
            obtain ⟨z, hz⟩ : ∃ z, xs[k - 1]? = some z := ⟨_, List.getElem?_eq_getElem (by omega)⟩
            obtain ⟨gb2, o2, hgg, _, hcell2⟩ := HV.out.at (k := k - 1) (by omega)
            have hzk : xs[k - 1]'(by omega) = z := (List.getElem?_eq_some_iff.1 hz).2
            injection hgg with hgg
            injection hgg with hgg hoo
            rw [hzk, ← hgg, ← hoo] at hcell2
            replace hcell2 := dr_cell hcell2 HDR.out
            obtain ⟨k1, hkk⟩ : ∃ k1, k = k1 + 1 := ⟨k - 1, by omega⟩
            have hsub : (k : Int) - 1 = (k1 : Int) := by omega
            have hk1n : k1 < n := by omega
            have hk1n' : (k1 : Int) < (n : Int) := by omega
            have e1 : k - 1 = k1 := by omega
            rw [e1] at hcell2 hz
            have hkst : R = (above (some z) y && setFrom most (some y) (xs.drop (k + 1))) := by
              rw [HK.out, HD.out, setFrom, decide_eq_true (show (0 : Int) ≤ y by omega), decide_eq_true (show y ≤ most by omega), if_neg (by omega), e1, hz]
              rfl
            have HKS := Lib.hid hkst
            have hnz : k + 1 ≠ 0 := by omega
            clear hn h0 h1 hgg hoo hkk e1 hz hzk hkst
            by_cases h2 : y ≤ z
            · have hres : R = false := by rw [HKS.out, show above (some z) y = false from decide_eq_false (by omega)]; rfl
              go_wp2
              go_quiet (fail)
              go_wp2
              go_ret
              (try rw [hres]); exact ⟨rfl, dr_more HDR.out _⟩
            · have h2' : decide (y ≤ z) = false := decide_eq_false h2
              have HK' : Hid (R = setFrom most (if k + 1 = 0 then none else xs[k + 1 - 1]?) (xs.drop (k + 1))) := by
                show _ = _
                rw [HKS.out, if_neg hnz, Nat.add_sub_cancel, HY.out]
                rw [show above (some z) y = true from decide_eq_true (by omega)]; rfl
              go_wp2
              go_quiet (fail)
              go_wp2
              exact ⟨⟨k + 1, rfl, by omega, HK', dr_more HDR.out _⟩, by simp [intOf]; omega⟩
    · have hl' : decide ((k : Int) < (n : Int)) = false := decide_eq_false (by omega)
      have hres : R = true := by
        rw [HK.out, List.drop_eq_nil_of_le (by rw [HN.out]; omega)]; rfl
      go_wp2
      go_ret
      rw [hres]
      exact ⟨rfl, HDR.out⟩
end Go.Proofs.YtelanndleinabaaDoor
end
section
/- The walk of sextantref11.Check. -/
namespace Go.Proofs.YtelanndleinabaaDoor
open Go.RowKit
set_option linter.unusedVariables false

theorem movesN_drop_at {l : List ASt} {k : Nat} {y : ASt} (h : l[k]? = some y) : movesN (l.drop k) = y.2.length + movesN (l.drop (k + 1)) := by
  rw [drop_at h]; simp [movesN]
theorem movesN_take_at {l : List ASt} {k : Nat} {y : ASt} (h : l[k]? = some y) : movesN (l.take (k + 1)) = movesN (l.take k) + y.2.length := by
  rw [take_at h]; unfold movesN; rw [List.map_append, List.sum_append]; simp

set_option maxHeartbeats 8000000 in
set_option maxRecDepth 100000 in
theorem refAlt (a : Alt) (v : Value) (w : World) (hA : AltAt w.heap.size w v a) (hb : movesN a.states ≤ 4000000) (hb2 : a.states.length ≤ 4000000) :
    Calls Tryd.prog 17 #[v] w fun e w' => e = .returned (.int .i64 (altCode a : Nat)) ∧ Below w.heap.size w w' := by
  obtain ⟨x, y, rfl, hx, hy⟩ := hA
  obtain ⟨a1, cap1, rfl, hc1, hm1⟩ := hx.form
  obtain ⟨a2, cap2, rfl, hc2, hm2⟩ := hy.form
  obtain ⟨n, hn⟩ : ∃ n, a.states.length = n := ⟨_, rfl⟩
  obtain ⟨q, hq⟩ : ∃ q, a.init.length = q := ⟨_, rfl⟩
  obtain ⟨C, hC⟩ : ∃ C, altCode a = C := ⟨_, rfl⟩
  obtain ⟨O, hO⟩ : ∃ O, altOk a = O := ⟨_, rfl⟩
  rw [hn] at hc2 hb2 ⊢
  rw [hq] at hc1 ⊢
  rw [hC]
  have hok : O = (decide (n ≤ 4096 ∧ q ≤ 131072) && a.init.all (fun l => setL l ((n : Int) - 1)) && stsOk 0 a.states && decide (movesN a.states ≤ 131072)) := by rw [← hO]; unfold altOk; rw [hn, hq]
  have hCO : C = if O then 0 else 110 := by rw [← hC, ← hO]; rfl
  rw [hn] at hy
  rw [hq] at hx
  have HN := Lib.hid hn
  have HQ := Lib.hid hq
  have HOK := Lib.hid hok
  have HCO := Lib.hid hCO
  have HB := Lib.hid hb
  have HX := Lib.hid hx
  have HY := Lib.hid hy
  clear hn hq hok hCO hC hO hb hx hy
  have hB0 : Below w.heap.size w (w.alloc (.cells #[.slice a1 q cap1, .slice a2 n cap2] 39)) := (Below.refl _ _).alloc (Nat.le_refl _) _
  have hG0 := Holds.new w 39 #[.slice a1 q cap1, .slice a2 n cap2]
  by_cases hp : ¬ (n ≤ 4096 ∧ q ≤ 131072)
  · have hC : C = 110 := by rw [HCO.out, HOK.out, decide_eq_false hp]; rfl
    subst hC
    clear HCO
    have hcs : decide ((n : Int) ≤ 4096) = false ∨ (decide ((n : Int) ≤ 4096) = true ∧ decide ((q : Int) ≤ 131072) = false) := by
      by_cases h : n ≤ 4096
      · exact .inr ⟨decide_eq_true (by omega), decide_eq_false (by omega)⟩
      · exact .inl (decide_eq_false (by omega))
    clear hp
    rcases hcs with h1 | ⟨h1, h2⟩
    all_goals
      go_enter Tryd.func17, Tryd.ntmps17
      go_wp2
      generalize w.alloc (.cells #[.slice a1 q cap1, .slice a2 n cap2] 39) = W0 at hB0 hG0 ⊢
      have x0 := hG0.cell 0
      have x1 := hG0.cell 1
      simp only [List.getElem?_cons_zero, List.getElem?_cons_succ] at x0 x1
      go_loopw [3, 4] (fun f x wr => f = .bool false ∧ x = .int .i64 0 ∧ wr = W0) (fun _ _ _ => 0)
      case atStart => exact ⟨rfl, rfl, rfl⟩
      case round =>
        obtain ⟨rfl, rfl, rfl⟩ := hrel
        go_wp2
        all_goals
          go_loopw [3, 5, 6] (fun f y x wr' => f = .bool false ∧ y = .int .i64 0 ∧ x = .int .i64 0 ∧ wr' = wr) (fun _ _ _ _ => 0)
          case atStart => exact ⟨rfl, rfl, rfl, rfl⟩
          case round =>
            obtain ⟨rfl, rfl, rfl, rfl⟩ := hrel
            go_wp2
            all_goals go_ret
            all_goals exact ⟨rfl, hB0⟩
  · have hp' := Decidable.not_not.1 hp
    obtain ⟨s0, s1⟩ := hp'
    clear hp
    have t1 : decide ((n : Int) ≤ 4096) = true := decide_eq_true (by omega)
    have t2 : decide ((q : Int) ≤ 131072) = true := decide_eq_true (by omega)
    have HOK' : Hid (O = (true && (a.init.drop 0).all (fun l => setL l ((n : Int) - 1)) && stsOk 0 a.states && decide (movesN a.states ≤ 131072))) := by
      show _ = _
      rw [HOK.out, decide_eq_true (show n ≤ 4096 ∧ q ≤ 131072 from ⟨s0, s1⟩), List.drop_zero]
    clear HOK
    go_enter Tryd.func17, Tryd.ntmps17
    go_wp2
    generalize w.alloc (.cells #[.slice a1 q cap1, .slice a2 n cap2] 39) = W0 at hB0 hG0 ⊢
    go_loopw [3, 4] (fun f x wr => ∃ (F : Bool) (k : Nat), f = .bool F ∧ x = .int .i64 (k : Int) ∧ k ≤ q ∧ Hid (O = (F && (a.init.drop k).all (fun l => setL l ((n : Int) - 1)) && stsOk 0 a.states && decide (movesN a.states ≤ 131072))) ∧ Holds wr w.heap.size 39 [.slice a1 q cap1, .slice a2 n cap2] ∧ Below w.heap.size w wr) (fun _ x _ => (q + 10 - intOf x).toNat)
    case atStart => exact ⟨true, 0, rfl, rfl, Nat.zero_le _, HOK', hG0, hB0⟩
    case round =>
      clear hG0 hB0
      obtain ⟨F, k, rfl, rfl, hk, HK, hG, hB⟩ := hrel
      have x0 := hG.cell 0
      have x1 := hG.cell 1
      simp only [List.getElem?_cons_zero, List.getElem?_cons_succ] at x0 x1
      by_cases hl : k < q ∧ F = true
      · obtain ⟨hl, rfl⟩ := hl
        have hl' : (k : Int) < (q : Int) := by omega
        obtain ⟨ys, hyq⟩ : ∃ y, a.init[k]? = some y := ⟨_, List.getElem?_eq_getElem (by rw [HQ.out]; exact hl)⟩
        obtain ⟨gb, o, u, rfl, hgb, hcell, hu⟩ := (HX.out.below hB).at (k := k) (by rw [HQ.out]; exact hl)
        rw [(List.getElem?_eq_some_iff.1 hyq).2] at hu
        have HD := Lib.hid (drop_at hyq)
        have HS : Hid (∀ nd, Calls Tryd.prog 34 #[u, .int .i64 ((n : Int) - 1)] (wr.drewN nd) fun e w' => e = .returned (.bool (setL ys ((n : Int) - 1))) ∧ ∃ m, w' = (wr.drewN nd).drewN m) := fun nd =>
          refSet ((n : Int) - 1) u ys (wr.drewN nd) ((hu.below (below_drewN' (Below.refl _ _) nd)).mono hB.size) (by omega)
        obtain ⟨a3, cap3, rfl, _, _⟩ := hu.form
        have HK' : Hid (O = (setL ys ((n : Int) - 1) && (a.init.drop (k + 1)).all (fun l => setL l ((n : Int) - 1)) && stsOk 0 a.states && decide (movesN a.states ≤ 131072))) := by
          show _ = _
          rw [HK.out, HD.out, List.all_cons, Bool.true_and]
        clear hu hyq HK HD
        generalize setL ys ((n : Int) - 1) = b at HS HK'
        go_wp2
        go_quiet ((go_at_call 34; exact Calls.quiet_of (HS.out _)))
        go_wp2
        exact ⟨⟨b, k + 1, rfl, rfl, by omega, HK', hG, below_drewN' hB _⟩, by simp [intOf]; omega⟩
      · have HK2 : Hid (O = (F && stsOk 0 (a.states.drop 0) && decide (0 + movesN (a.states.drop 0) ≤ 131072))) := by
          show _ = _
          rw [HK.out, List.drop_zero, Nat.zero_add]
          cases F with
          | false => rfl
          | true =>
            have h0 : ¬ k < q := fun h => hl ⟨h, rfl⟩
            rw [List.drop_eq_nil_of_le (by rw [HQ.out]; omega)]
            rfl
        have hgo : (k < q ∧ F = false) ∨ decide ((k : Int) < (q : Int)) = false := by
          by_cases h : k < q
          · refine .inl ⟨h, ?_⟩
            cases F with
            | false => rfl
            | true => exact absurd ⟨h, rfl⟩ hl
          · exact .inr (decide_eq_false (by omega))
        clear hl HK HOK'
        rcases hgo with ⟨hkq, rfl⟩ | hkq
        all_goals
          first
            | (replace hkq : (k : Int) < (q : Int) := by omega)
            | (have hkn : ¬ k < q := by have := of_decide_eq_false hkq; omega)
          go_wp2
          go_loopw [3, 5, 6] (fun f y x wr => ∃ (F : Bool) (M k : Nat), f = .bool F ∧ y = .int .i64 (M : Int) ∧ x = .int .i64 (k : Int) ∧ k ≤ n ∧ M ≤ 4000000 ∧ Hid (M = movesN (a.states.take k)) ∧ Hid (O = (F && stsOk k (a.states.drop k) && decide (M + movesN (a.states.drop k) ≤ 131072))) ∧ Hid (F = true → M ≤ 131072) ∧ Holds wr w.heap.size 39 [.slice a1 q cap1, .slice a2 n cap2] ∧ Below w.heap.size w wr) (fun _ _ x _ => (n + 10 - intOf x).toNat)
          case atStart => exact ⟨_, 0, 0, rfl, rfl, rfl, Nat.zero_le _, by omega, rfl, HK2, (fun _ => by omega), hG, hB⟩
          case round =>
            clear HK2 hG hB x0 x1
            obtain ⟨F, M, k, rfl, rfl, rfl, hk, hMb, HM, HK, HF0, hG, hB⟩ := hrel
            have x0 := hG.cell 0
            have x1 := hG.cell 1
            simp only [List.getElem?_cons_zero, List.getElem?_cons_succ] at x0 x1
            by_cases hl : k < n ∧ F = true
            · obtain ⟨hl, rfl⟩ := hl
              have hl' : (k : Int) < (n : Int) := by omega
              obtain ⟨st, hst⟩ : ∃ y, a.states[k]? = some y := ⟨_, List.getElem?_eq_getElem (by rw [HN.out]; exact hl)⟩
              obtain ⟨gb, o, u, rfl, hgb, e0', e1', hu⟩ := HY.out.at (k := k) (by rw [HN.out]; exact hl)
              rw [(List.getElem?_eq_some_iff.1 hst).2] at hu e0'
              have e1 := (cell_below hB hgb _).trans e1'
              have hta := movesN_take_at hst
              have hda := drop_at hst
              have hmd := movesN_drop_at hst
              obtain ⟨fin, ys⟩ := st
              simp only at hu e0' hta hmd
              obtain ⟨a3, cap3, rfl, hc3, hm3⟩ := hu.form
              obtain ⟨p, hp⟩ : ∃ p, ys.length = p := ⟨_, rfl⟩
              rw [hp] at hc3 e1 hu hta hmd e1'
              rw [← HM.out] at hta
              have hsum : M + p ≤ 4000000 := by
                have := movesN_take a.states (k + 1)
                have := HB.out
                omega
              have HM' : Hid (M + p = movesN (a.states.take (k + 1))) := hta.symm
              have HK0 : Hid (O = (decide (M + p ≤ 131072) && (ys.drop 0).all (stOk k) && stsOk (k + 1) (a.states.drop (k + 1)) && decide (M + p + movesN (a.states.drop (k + 1)) ≤ 131072))) := by
                show _ = _
                rw [HK.out, hda, stsOk, ← hda, hmd, List.drop_zero, Bool.true_and, ← Nat.add_assoc]
                by_cases hbig : M + p ≤ 131072
                · rw [decide_eq_true hbig, Bool.true_and]
                · rw [decide_eq_false hbig, decide_eq_false (by omega)]; simp
              have HU := Lib.hid hu
              have HPL := Lib.hid hp
              have HE1 := Lib.hid e1'
              obtain ⟨P, hP⟩ : ∃ P, M + p = P := ⟨_, rfl⟩
              have hPI : (M : Int) + (p : Int) = (P : Int) := by omega
              rw [hP] at HM' HK0 hsum
              obtain ⟨D, hD⟩ : ∃ D, decide (P ≤ 131072) = D := ⟨_, rfl⟩
              have hDI : decide ((P : Int) ≤ 131072) = D := by rw [← hD, decide_eq_decide]; omega
              rw [hD] at HK0
              have HD := Lib.hid (show D = true → P ≤ 131072 from fun h => of_decide_eq_true (hD.trans h))
              clear hst hta hda hmd hu hp e0' e1' HK HM hP hD HF0
              go_wp2
              go_loopw [3, 8] (fun f x wr => ∃ (F : Bool) (j : Nat), f = .bool F ∧ x = .int .i64 (j : Int) ∧ j ≤ p ∧ Hid (O = (F && (ys.drop j).all (stOk k) && stsOk (k + 1) (a.states.drop (k + 1)) && decide (P + movesN (a.states.drop (k + 1)) ≤ 131072))) ∧ Hid (F = true → P ≤ 131072) ∧ Holds wr w.heap.size 39 [.slice a1 q cap1, .slice (some ⟨gb, o, none⟩) n cap2] ∧ Below w.heap.size w wr) (fun _ x _ => (p + 10 - intOf x).toNat)
              case atStart => exact ⟨_, 0, rfl, rfl, Nat.zero_le _, HK0, HD, hG, hB⟩
              case round =>
                clear HK0 hG hB x0 x1 HD e1
                obtain ⟨F, j, rfl, rfl, hj, HK, HFP, hG, hB⟩ := hrel
                by_cases hjl : j < p ∧ F = true
                · obtain ⟨hjl, rfl⟩ := hjl
                  have hjl' : (j : Int) < (p : Int) := by omega
                  obtain ⟨m, hmq⟩ : ∃ m, ys[j]? = some m := ⟨_, List.getElem?_eq_getElem (by rw [HPL.out]; exact hjl)⟩
                  obtain ⟨g3, o3, ut, rfl, hg3, f0, f1, f2, hut, q1, q2⟩ := (HU.out.below hB).at (k := j) (by rw [HPL.out]; exact hjl)
                  rw [(List.getElem?_eq_some_iff.1 hmq).2] at f0 f1 hut q1 q2
                  have hdm := drop_at hmq
                  obtain ⟨my, mn, mt⟩ := m
                  simp only at f0 f1 hut q1 q2
                  have a1' := bits_and_u64_nat my mn q1 q2
                  have HSF := Lib.hid (refSet (k : Int) ut mt wr (hut.mono hB.size) (by omega))
                  obtain ⟨a5, cap5, rfl, _, _⟩ := hut.form
                  obtain ⟨n5, hn5⟩ : ∃ n5, mt.length = n5 := ⟨_, rfl⟩
                  rw [hn5] at HSF f2
                  have HK1 : Hid (O = (((my &&& mn == 0) && setL mt (k : Int)) && (ys.drop (j + 1)).all (stOk k) && stsOk (k + 1) (a.states.drop (k + 1)) && decide (P + movesN (a.states.drop (k + 1)) ≤ 131072))) := by
                    show _ = _
                    rw [HK.out, hdm, List.all_cons, stOk, Bool.true_and]
                  clear hmq hut q1 q2 hn5 hdm HK
                  generalize my &&& mn = c at a1' HK1
                  generalize setL mt (k : Int) = sb at HSF HK1
                  have fin : ∀ F' : Bool, F' = ((c == 0) && sb) → Hid (O = (F' && (ys.drop (j + 1)).all (stOk k) && stsOk (k + 1) (a.states.drop (k + 1)) && decide (P + movesN (a.states.drop (k + 1)) ≤ 131072))) := by
                    intro F' h
                    show _ = _
                    rw [h]; exact HK1.out
                  have FIN := Lib.hid fin
                  clear fin HK1
                  cases sb with
                  | false =>
                    have HF := FIN.out false (by simp)
                    clear FIN
                    go_wp2_with (go_at_call 34; refine (HSF.out).mono ?_; rintro e wm ⟨rfl, hd⟩; have HDR := Lib.hid hd; have f0 := dr_cell f0 hd; have f1 := dr_cell f1 hd; have hG := dr_holds hG hd; have hB := dr_below hB hd; clear hd)
                    go_quiet (fail)
                    go_wp2
                    exact ⟨⟨false, j + 1, rfl, rfl, by omega, HF, (fun h => by cases h), hG, below_drewN' hB _⟩, by simp [intOf]; omega⟩
                  | true =>
                    by_cases hc : c = 0
                    · have hc' : ((c : Int) == 0) = true := by simp [hc]
                      have HF := FIN.out true (by simp [hc])
                      have HP3 : Hid (P ≤ 131072) := HFP.out rfl
                      clear FIN
                      go_wp2_with (go_at_call 34; refine (HSF.out).mono ?_; rintro e wm ⟨rfl, hd⟩; have HDR := Lib.hid hd; have f0 := dr_cell f0 hd; have f1 := dr_cell f1 hd; have hG := dr_holds hG hd; have hB := dr_below hB hd; clear hd)
                      go_quiet (fail)
                      go_wp2
                      exact ⟨⟨true, j + 1, rfl, rfl, by omega, HF, (fun _ => HP3.out), hG, below_drewN' hB _⟩, by simp [intOf]; omega⟩
                    · have hc' : ((c : Int) == 0) = false := by simp; omega
                      have HF := FIN.out false (by simp [hc])
                      clear FIN
                      go_wp2_with (go_at_call 34; refine (HSF.out).mono ?_; rintro e wm ⟨rfl, hd⟩; have HDR := Lib.hid hd; have f0 := dr_cell f0 hd; have f1 := dr_cell f1 hd; have hG := dr_holds hG hd; have hB := dr_below hB hd; clear hd)
                      go_quiet (fail)
                      go_wp2
                      exact ⟨⟨false, j + 1, rfl, rfl, by omega, HF, (fun h => by cases h), hG, below_drewN' hB _⟩, by simp [intOf]; omega⟩
                · have HKE : Hid (O = (F && stsOk (k + 1) (a.states.drop (k + 1)) && decide (P + movesN (a.states.drop (k + 1)) ≤ 131072))) := by
                    show _ = _
                    rw [HK.out]
                    cases F with
                    | false => rfl
                    | true =>
                      have h0 : ¬ j < p := fun h => hjl ⟨h, rfl⟩
                      rw [List.drop_eq_nil_of_le (by rw [HPL.out]; omega)]
                      rfl
                  have hgo : (j < p ∧ F = false) ∨ decide ((j : Int) < (p : Int)) = false := by
                    by_cases h : j < p
                    · refine .inl ⟨h, ?_⟩
                      cases F with
                      | false => rfl
                      | true => exact absurd ⟨h, rfl⟩ hjl
                    · exact .inr (decide_eq_false (by omega))
                  clear hjl HK
                  rcases hgo with ⟨hjp, rfl⟩ | hjp
                  · replace hjp : (j : Int) < (p : Int) := by omega
                    go_wp2
                    exact ⟨⟨false, P, k + 1, rfl, rfl, rfl, by omega, hsum, HM', HKE, (fun h => by cases h), hG, hB⟩, by simp [intOf]; omega⟩
                  · have hjn : ¬ j < p := by have := of_decide_eq_false hjp; omega
                    go_wp2
                    exact ⟨⟨F, P, k + 1, rfl, rfl, rfl, by omega, hsum, HM', HKE, HFP, hG, hB⟩, by simp [intOf]; omega⟩
            · have hOF : O = F := by
                rw [HK.out]
                cases F with
                | false => rfl
                | true =>
                  have hkn : n ≤ k := by
                    by_cases h : k < n
                    · exact absurd ⟨h, rfl⟩ hl
                    · omega
                  rw [List.drop_eq_nil_of_le (by rw [HN.out]; omega)]
                  have := HF0.out rfl
                  simp [this, movesN, stsOk]
              have hcases : (F = false) ∨ decide ((k : Int) < (n : Int)) = false := by
                cases F with
                | false => exact .inl rfl
                | true => exact .inr (decide_eq_false (by intro h; exact hl ⟨by omega, rfl⟩))
              have hC := HCO.out
              rw [hOF] at hC
              clear hl HK HCO HF0
              cases F with
              | false =>
                have hC' : C = 110 := hC
                subst hC'
                clear hC
                go_wp2
                all_goals go_ret
                all_goals exact ⟨rfl, hB⟩
              | true =>
                have hC' : C = 0 := hC
                subst hC'
                clear hC
                have hkn : decide ((k : Int) < (n : Int)) = false := by
                  rcases hcases with h | h
                  · cases h
                  · exact h
                have hkn2 : ¬ k < n := by have := of_decide_eq_false hkn; omega
                go_wp2
                go_ret
                exact ⟨rfl, hB⟩
end Go.Proofs.YtelanndleinabaaDoor
end
