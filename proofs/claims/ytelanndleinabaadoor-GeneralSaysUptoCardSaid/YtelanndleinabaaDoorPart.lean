/- The walk of part. -/
import Derived.Test.YtelanndleinabaaDoorPartS
namespace Go.Proofs.YtelanndleinabaaDoor
open Go.RowKit
set_option linter.unusedVariables false

theorem stps_at : ∀ (L : List (Nat × Nat)) (i : Nat) (h : i < L.length), (stps L)[i * 2]? = some (.int .i64 (L[i].1 : Int)) ∧ (stps L)[i * 2 + 1]? = some (.int .u64 (L[i].2 : Int))
  | t :: ts, 0, _ => by simp [stps, stp]
  | t :: ts, i + 1, h => by
    have hi := stps_at ts i (by simpa using h)
    have e : stps (t :: ts) = stp t ++ stps ts := by simp [stps]
    have hl : (stp t).length = 2 := rfl
    rw [e]
    rw [List.getElem?_append_right (by rw [hl]; omega), List.getElem?_append_right (by rw [hl]; omega), hl]
    simp only [show (i + 1) * 2 - 2 = i * 2 by omega, show (i + 1) * 2 + 1 - 2 = i * 2 + 1 by omega, List.getElem_cons_succ]
    exact hi

set_option maxHeartbeats 4000000 in
set_option maxRecDepth 100000 in
theorem partFn (β T mi ml mo N S bn bw bl bg x : Nat) (vs : Value) (w : World) (s : TSt) (g : Gen) (l : Las) (hT : TM β T mi ml mo N S (stepsV bn bw bl bg) vs w s) (hE : SEnv β w bn bw bl bg g l) (hF : Fit2 g l N) (hx : x ∈ s.stack) (hnd : s.stack.Pairwise (· ≠ ·)) :
    Calls Tryd.prog 41 #[.pointer (some ⟨T, 0, none⟩), .int .i64 (x : Int)] w fun e w' => ∃ vs' SS RR, e = .returned (.bool (RR && (SS == S))) ∧ AccOf SS RR (inPart (stepsOf g l) (part_ x s.stack)) ∧
      TM β T mi ml mo N S (stepsV bn bw bl bg) vs' w' (s.pop x) ∧ Kp w w' ∧ Below β w w' := by
  have hN := hF.small
  have hNN : N < 4611686018427387904 := by omega
  obtain ⟨hM, hPu⟩ := hT
  obtain ⟨b1, b2, b3, b4, m1, m2, m3⟩ := hM.bt
  have hlow := hM.lows
  have hTlt := hM.t.lt
  have hβ : β ≤ w.heap.size := Nat.le_trans b1 (Nat.le_of_lt hTlt)
  have HF := Lib.hid hF
  have HE := Lib.hid hE
  -- how the stack is split
  have hvis : ∀ y ∈ s.stack, y < N := fun y hy => hPu.vis y (hPu.sub y hy)
  have hlenN : s.stack.length ≤ N := by have := hPu.slen; have := hPu.cnt; have := cntB_le s.index N; omega
  obtain ⟨r0, hr0, hxr⟩ := part_split x s.stack hx
  have hpu := part_under x s.stack
  obtain ⟨u, hu⟩ : ∃ u, (under x s.stack).reverse = u := ⟨_, rfl⟩
  obtain ⟨r, hr⟩ : ∃ r, r0.reverse = r := ⟨_, rfl⟩
  have hstk : s.stack.reverse = u ++ x :: r := by
    conv => lhs; rw [← hpu]
    rw [List.reverse_append, hu, hr0, List.reverse_append, hr]; rfl
  have hxu : x ∉ u := by
    have hap := (List.pairwise_append.1 (by rw [hpu]; exact hnd)).2.2
    intro h
    rw [← hu, List.mem_reverse] at h
    exact hap x (by rw [hr0]; simp) x h rfl
  have hmem : ∀ y, y ∈ x :: r ↔ y ∈ part_ x s.stack := fun y => by
    rw [hr0, ← hr]; simp; exact ⟨fun h => h.symm, fun h => h.symm⟩
  have hpqN : ∀ y ∈ x :: r, y < N := fun y hy => hvis y (by have : y ∈ s.stack.reverse := by rw [hstk]; exact List.mem_append.2 (.inr hy)
                                                            exact List.mem_reverse.1 this)
  have hpure : TPure N (s.pop x) := by
    refine ⟨hPu.cnt, hPu.vis, hPu.ilt, ?_, fun y hy => hPu.sub y ?_⟩
    · have h1 : (under x s.stack).length ≤ s.stack.length := by
        conv => rhs; rw [← hpu]
        rw [List.length_append]; omega
      exact Nat.le_trans h1 hPu.slen
    · rw [← hpu]; exact List.mem_append.2 (.inr hy)
  have hpopS : (s.pop x).stack.reverse = u := hu
  have honp : minusF (onF s) (x :: r) = onF (s.pop x) := by
    rw [← onF_pop hnd]
    funext y
    unfold minusF
    by_cases h : y ∈ part_ x s.stack
    · rw [if_pos h, if_pos ((hmem y).2 h)]
    · rw [if_neg h, if_neg (fun h' => h ((hmem y).1 h'))]
  have hlenS : s.stack.reverse.length = u.length + (x :: r).length := by rw [hstk, List.length_append]
  rw [hstk] at hM
  have hRow := Row.of_owns hM.stack
  have hRI := rowI_of_nats hRow (fun y hy => by
    have : y ∈ s.stack := List.mem_reverse.1 (by rw [hstk]; exact hy)
    have := hvis y this; omega)
  have hff := firstFrom_at x u r 0 hxu
  obtain ⟨gS, capS, hvs, g1, g2, g3, g4, g5, g6⟩ := owns_some hM.stack (by simp; omega)
  obtain ⟨K, hK⟩ : ∃ K, u.length = K := ⟨_, rfl⟩
  obtain ⟨M, hMl⟩ : ∃ M, (x :: r).length = M := ⟨_, rfl⟩
  obtain ⟨pq, hpq⟩ : ∃ pq, x :: r = pq := ⟨_, rfl⟩
  have hKM : (u ++ x :: r).length = K + M := by rw [List.length_append, hK, hMl]
  have hKMN : K + M ≤ N := by rw [← hKM, ← hstk, List.length_reverse]; exact hlenN
  rw [hKM] at hvs g3
  rw [hK, Nat.zero_add] at hff
  subst hvs
  have HI := Lib.hid (indexInt (x : Int) w.heap.size _ _ w hRI)
  rw [hff] at HI
  rw [hpq] at hM hmem hMl hpqN honp hKM
  have HM0 := Lib.hid hKM
  have HMEM := Lib.hid hmem
  have HPQ := Lib.hid hpqN
  have HPURE := Lib.hid hpure
  have HPOP := Lib.hid hpopS
  have HON := Lib.hid honp
  have HML := Lib.hid hMl
  have HK := Lib.hid hK
  have c5 := hM.t.cell 5
  simp at c5
  have hM1 : 0 < M := by rw [← hMl, ← hpq]; simp
  have hlow' := Lib.hid hlow
  clear hPu hE hF hx hnd hvis hr0 hxr hpu hu hr hstk hxu hmem hpqN hpure hpopS honp hlenS hRow hRI hff g5 g6 hK hMl hpq hKM hlow
  have hmm := @run_makeMap Tryd.prog
  go_enter Tryd.func41, Tryd.ntmps41
  go_wp2_with (fail)
  refine (HI.out).mono ?_
  rintro e w ⟨rfl, rfl⟩
  have hI0 := IMap.new w N
  have hB00 : Below w.heap.size w (w.alloc (.map #[] 0)) := (Below.refl _ _).alloc (Nat.le_refl _) _
  have hM0 := hM.below hB00
  have hKp0 := Kp.of_below hB00
  have hBe0 := hB00.mono hβ
  have x5 := hM0.t.cell 5
  simp at x5
  have hKi : (K : Int) ≤ (K : Int) + (M : Int) := by omega
  have hUI : w.heap.size < (w.alloc (.map #[] 0)).heap.size := by simp
  clear hM hB00 c5
  unfold maxLen at g4
  go_wp2
  generalize w.alloc (.map #[] 0) = W at *
  have hset0 : setF (pq.take 0) = fun _ => none := by funext y; simp [setF]
  have hmin0 : minusF (onF s) (pq.take 0) = onF s := by funext y; simp [minusF]
  clear x5
  go_loopw [28] (fun y wr => ∃ j : Nat, y = .int .i64 (j : Int) ∧ j ≤ M ∧ IMap wr w.heap.size N (setF (pq.take j)) ∧
      TMem β T mi ml mo N S (stepsV bn bw bl bg) (.slice (some ⟨gS, 0, none⟩) (K + M) capS) wr s.index (lowF s) (minusF (onF s) (pq.take j)) (u ++ pq) ∧ Kp w wr ∧ Below β w wr ∧ w.heap.size < wr.heap.size) (fun y _ => (M + 10 - intOf y).toNat)
  case atStart => exact ⟨0, rfl, Nat.zero_le _, (by rw [hset0]; exact hI0), (by rw [hmin0]; exact hM0), hKp0, hBe0, hUI⟩
  case round =>
    clear hI0 hM0 hKp0 hBe0 hUI hset0 hmin0
    obtain ⟨j, rfl, hj, hI, hM, hKp, hBe, hUI⟩ := hrel
    by_cases hjl : j < M
    · have hjl' : (j : Int) < (M : Int) := by omega
      obtain ⟨k, hkq⟩ : ∃ k, pq[j]? = some k := ⟨_, List.getElem?_eq_getElem (by rw [HML.out]; exact hjl)⟩
      have hkN := HPQ.out k (List.mem_of_getElem? hkq)
      have hcell : wr.cell? ⟨gS, K + j, none⟩ = some (.int .i64 (k : Int)) := by
        have := own_cell hM.stack (j := K + j) (by rw [HM0.out]; omega)
        rw [this]
        unfold nats
        rw [List.getElem?_map, List.getElem?_append_right (by rw [HK.out]; omega), HK.out, Nat.add_sub_cancel_left, hkq]
        rfl
      have hta := take_at hkq
      have HS : Hid (upd (setF (pq.take j)) k (some 1) = setF (pq.take (j + 1))) := by rw [hta, setF_snoc]; rfl
      have HMn : Hid (upd (minusF (onF s) (pq.take j)) k none = minusF (onF s) (pq.take (j + 1))) := by rw [hta, minusF_snoc]; rfl
      clear hta hkq
      go_wp2_with (at_mapUpdate; refine wpList_iput _ rfl (.tmp 32) (.tmp 33) (.const (.int .i64 1)) rfl rfl hI k 1 rfl rfl hkN hNN (by omega) ?_)
      intro w1 hI1 q1
      have hM1 := hM.later hlow'.out q1 (Nat.le_refl _)
      have hKp1 := hKp.later q1 (Nat.le_refl _)
      have hBe1 := hBe.grown q1 (Nat.le_trans hβ (Nat.le_of_lt hUI)) (fun k e => by injection e with e; omega)
      have hUI1 := Nat.lt_of_lt_of_le hUI q1.size
      clear hI hM hKp hBe hUI q1 hcell
      have x4 := hM1.t.cell 4
      simp at x4
      go_wp2_with (at_delete; refine wpList_bdel _ rfl (.tmp 37) (.tmp 38) rfl rfl hM1.on k rfl hkN hNN ?_)
      intro w2 hO2 q2
      have hlo := hlow'.out
      obtain ⟨u1, u2, u3, u4, u5⟩ := hlo
      have hM2 := hM1.putO q2 hO2
      have hI2 := hI1.of_eq (q2.block _ hI1.lt (fun e => by injection e with e; omega))
      have hKp2 := hKp1.bmap q2 hM1.on
      have hBe2 := hBe1.grown q2 (Nat.le_trans hβ (Nat.le_of_lt hUI1)) (fun k e => by injection e with e; omega)
      have hUI2 := Nat.lt_of_lt_of_le hUI1 q2.size
      rw [HMn.out] at hM2
      rw [HS.out] at hI2
      clear hI1 hM1 hKp1 hBe1 hUI1 q2 x4 hO2 u1 u2 u3 u4 u5
      go_wp2
      exact ⟨⟨j + 1, rfl, by omega, hI2, hM2, hKp2, hBe2, hUI2⟩, by simp [intOf]; omega⟩
    · have hjl' : decide ((j : Int) < (M : Int)) = false := decide_eq_false (by omega)
      have hfin : pq.take j = pq := List.take_of_length_le (by rw [HML.out]; omega)
      rw [hfin] at hI hM
      have hM3 := hM.cut (m := K) HM0.out (by omega)
      rw [HON.out] at hM3
      have e0 : (u ++ pq).take K = u := by rw [← HK.out]; simp
      rw [e0] at hM3
      have x5 := hM.t.cell 5
      have z5 := hM.t.free 5
      simp at x5
      have hI3 : IMap (wr.setCell ⟨T, 5, none⟩ (.slice (some ⟨gS, 0, none⟩) K capS)) w.heap.size N (setF pq) := hI.of_eq (Below.heap_setCell _ _ _ _ (hM.t.ne_map hI.obj).symm)
      have hKp3 := hKp.put hM.t 5 (.slice (some ⟨gS, 0, none⟩) K capS)
      have hBe3 := hBe.setCell (p := ⟨T, 5, none⟩) b1 (.slice (some ⟨gS, 0, none⟩) K capS)
      have hUI3 : w.heap.size < (wr.setCell ⟨T, 5, none⟩ (.slice (some ⟨gS, 0, none⟩) K capS)).heap.size := by rw [size_setCell]; exact hUI
      clear hI hM hKp hBe hUI hfin e0
      go_wp2_with (at_range; refine wpList_irange _ rfl (.tmp 49) rfl rfl hI3 ?_)
      intro w4 cnt hR q4 hsz
      have hM4 := hM3.below (Fr.to_below (F := fun _ => False) ((Fr.refl _ _).grown q4 (fun k e => by cases e)) (Nat.le_refl _) (fun _ _ h => h))
      have hKp4 := hKp3.grown q4 (fun g cs t e => by cases e)
      have hBe4 := hBe3.grown q4 (Nat.le_trans hβ (Nat.le_of_lt hUI3)) (fun k e => by cases e)
      have hUI4 : w.heap.size < wr.heap.size ∧ wr.heap.size < w4.heap.size := ⟨by rw [size_setCell] at hUI3; exact hUI3, by omega⟩
      clear hM3 hI3 hKp3 hBe3 hUI3 x5 z5 q4 hsz
      obtain ⟨rb, hrb⟩ : ∃ rb, wr.heap.size = rb := ⟨_, rfl⟩
      rw [hrb] at hR hUI4
      have hrb2 : (wr.setCell ⟨T, 5, none⟩ (.slice (some ⟨gS, 0, none⟩) K capS)).heap.size = rb := by rw [size_setCell]; exact hrb
      simp only [hrb]
      clear hrb hrb2
      obtain ⟨hU1, hU4⟩ := hUI4
      have hA0 : AccOf 0 false (fun e => ∃ k, k ∈ pq ∧ (fun x => (setF pq x).isSome) k = false ∧ e ∈ stepsOf g l k ∧ e.1 ∈ pq) := by
        refine AccOf.none.congr fun e => ⟨fun h => h.elim, ?_⟩
        rintro ⟨k, hk, h1, _⟩
        simp [setF, hk] at h1
      go_wp2
      go_loopw [9, 10] (fun a b wr2 => ∃ (SS : Nat) (RR : Bool) (left : Nat → Bool) (cnt : Nat), a = .int .u64 (SS : Int) ∧ b = .bool RR ∧ Hid (AccOf SS RR (fun e => ∃ k, k ∈ pq ∧ left k = false ∧ e ∈ stepsOf g l k ∧ e.1 ∈ pq)) ∧ IRange wr2 w.heap.size rb N (setF pq) left cnt ∧
        TMem β T mi ml mo N S (stepsV bn bw bl bg) (.slice (some ⟨gS, 0, none⟩) K capS) wr2 s.index (lowF s) (onF (s.pop x)) u ∧ Kp w wr2 ∧ Below β w wr2 ∧ rb < wr2.heap.size) (fun _ _ wr2 => wr2.rangeLeft w.heap.size rb)
      case atStart => exact ⟨0, false, _, cnt, rfl, rfl, hA0, hR, hM4, hKp4, hBe4, hU4⟩
      case round =>
        clear hA0 hR hM4 hKp4 hBe4 hU4
        obtain ⟨SS, RR, left, cnt2, rfl, rfl, HA, hR, hM, hKp, hBe, hU⟩ := hrel
        have hcnt := hR.left_eq
        go_wp2_with (at_next; refine wpList_inext _ rfl (.tmp 50) rfl rb left cnt2 rfl hR ?_ ?_)
        · intro h0 hz
          have HA' : Hid (AccOf SS RR (inPart (stepsOf g l) (part_ x s.stack))) := HA.out.congr fun e => by
            constructor
            · rintro ⟨k, k1, k2, k3, k4⟩
              exact ⟨k, (HMEM.out k).1 k1, k3, (HMEM.out e.1).1 k4⟩
            · rintro ⟨k, k1, k3, k4⟩
              exact ⟨k, (HMEM.out k).2 k1, hz k (HPQ.out k ((HMEM.out k).2 k1)), k3, (HMEM.out e.1).2 k4⟩
          have HM' : Hid (TM β T mi ml mo N S (stepsV bn bw bl bg) (.slice (some ⟨gS, 0, none⟩) K capS) wr (s.pop x)) := ⟨by rw [HPOP.out]; exact hM, HPURE.out⟩
          have x1 := hM.t.cell 1
          simp at x1
          clear hz HA hR hM hcnt
          cases RR
          · go_wp2
            go_ret
            exact ⟨_, SS, false, rfl, HA'.out, HM'.out, hKp, hBe⟩
          · by_cases hS : SS = S
            · have hS1 : ((SS : Int) == (S : Int)) = true := by simp [hS]
              have hS2 : (true && (SS == S)) = true := by simp [hS]
              clear hS
              go_wp2
              go_ret
              exact ⟨_, SS, true, by rw [hS2]; rfl, HA'.out, HM'.out, hKp, hBe⟩
            · have hS1 : ((SS : Int) == (S : Int)) = false := by simp; omega
              have hS2 : (true && (SS == S)) = false := by simp [hS]
              clear hS
              go_wp2
              go_ret
              exact ⟨_, SS, true, by rw [hS2]; rfl, HA'.out, HM'.out, hKp, hBe⟩
        · intro y c w5 cnt3 hyN hly hys hR5 hlt q5 hsz5 hen
          have hyp : y ∈ pq := by
            by_cases h : y ∈ pq
            · exact h
            · simp [setF, h] at hys
          have hM5 := hM.later (U := w.heap.size) hlow'.out q5 (Nat.le_of_lt hU1)
          have hKp5 := hKp.later q5 (Nat.le_of_lt hU1)
          have hBe5 := hBe.grown q5 (by omega) (fun k e => by injection e with e; omega)
          have hU5 : rb < w5.heap.size := by omega
          have c0 := hM5.t.cell 0
          simp at c0
          unfold stepsV at c0
          clear hR hM hKp hBe hU q5 hsz5 hys
          go_wp2_with (fail)
          refine (stepsFn β bn bw bl bg y g l w5 (HE.out.below hBe5) (by omega) HF.out.n0 HF.out.n1 HF.out.size HF.out.loop (by rw [← HF.out.N]; exact hyN) HF.out.moves).mono ?_
          rintro e w6 ⟨v, rfl, hown, hb6⟩
          have hM6 := hM5.below hb6
          have hKp6 := hKp5.trans (Kp.of_below hb6)
          have hBe6 := hBe5.trans (hb6.mono (by omega))
          have hR6 := hR5.kept (grown_of_below hb6 none) (by simp) (by simp)
          have hU6 : rb < w6.heap.size := Nat.lt_of_lt_of_le hU5 hb6.size
          obtain ⟨L, hL⟩ : ∃ L, stepsOf g l y = L := ⟨_, rfl⟩
          rw [hL] at hown
          obtain ⟨nL, hnL⟩ : ∃ nL, L.length = nL := ⟨_, rfl⟩
          rw [hnL] at hown
          have hnL2 : nL ≤ 131072 := by rw [← hnL, ← hL]; exact HF.out.few
          obtain ⟨aL, cL, rfl, hcL1, hcL2⟩ := owns_form hown
          unfold maxLen at hcL2
          have HL := Lib.hid hL
          have HNL := Lib.hid hnL
          clear hM5 hKp5 hBe5 hR5 hU5 c0 hb6 hL hnL hen
          go_wp2
          go_loopw [9, 10, 62] (fun a b z wr3 => ∃ (i SS2 : Nat) (RR2 : Bool), z = .int .i64 (i : Int) ∧ i ≤ nL ∧ a = .int .u64 (SS2 : Int) ∧ b = .bool RR2 ∧
            Hid (AccOf SS2 RR2 (fun e => (∃ k, k ∈ pq ∧ left k = false ∧ e ∈ stepsOf g l k ∧ e.1 ∈ pq) ∨ (e ∈ L.take i ∧ e.1 ∈ pq))) ∧ IRange wr3 w.heap.size rb N (setF pq) (fun z => left z && !(z == y)) cnt3 ∧
            TMem β T mi ml mo N S (stepsV bn bw bl bg) (.slice (some ⟨gS, 0, none⟩) K capS) wr3 s.index (lowF s) (onF (s.pop x)) u ∧ Kp w wr3 ∧ Below β w wr3 ∧ rb < wr3.heap.size ∧ wr3.ownsRow w5.heap.size 67 2 (.slice aL nL cL) nL (stps L)) (fun _ _ z _ => (nL + 10 - intOf z).toNat)
          case atStart => exact ⟨0, SS, RR, rfl, Nat.zero_le _, rfl, rfl, HA.out.congr (fun e => by simp), hR6, hM6, hKp6, hBe6, hU6, hown⟩
          case round =>
            clear hR6 hM6 hKp6 hBe6 hU6 hown
            obtain ⟨i, SS2, RR2, rfl, hi, rfl, rfl, HA2, hR, hM, hKp, hBe, hU, hown⟩ := hrel
            by_cases hil : i < nL
            · have hil' : (i : Int) < (nL : Int) := by omega
              obtain ⟨e, heq⟩ : ∃ e, L[i]? = some e := ⟨_, List.getElem?_eq_getElem (by rw [HNL.out]; exact hil)⟩
              have hemem := List.mem_of_getElem? heq
              obtain ⟨p1, p2⟩ := HF.out.step hyN (by rw [HL.out]; exact hemem)
              obtain ⟨gL, rfl, _, _, _, _, hcs, _⟩ := owns_head hown (by omega)
              obtain ⟨f0, f1⟩ := stps_at L i (by rw [HNL.out]; exact hil)
              have hek : L[i]'(by rw [HNL.out]; exact hil) = e := (List.getElem?_eq_some_iff.1 heq).2
              rw [hek] at f0 f1
              have d0 := (hcs (i * 2) (by omega)).trans f0
              have d1 := (hcs (i * 2 + 1) (by omega)).trans f1
              have hta := take_at heq
              have hEx : Hid (∀ e', e' ∈ L.take (i + 1) ↔ e' ∈ L.take i ∨ e' = e) := fun e' => by
                rw [hta, List.mem_append, List.mem_singleton]
              obtain ⟨e1, e2⟩ := e
              simp only at p1 p2 d0 d1
              have hM2 := hM.below ((Below.refl _ _).alloc (Nat.le_refl _) (.cells #[.int .i64 (e1 : Int), .int .u64 (e2 : Int)] 67))
              have hKp2 := hKp.alloc (.cells #[.int .i64 (e1 : Int), .int .u64 (e2 : Int)] 67)
              have hBe2 := hBe.alloc (by omega) (.cells #[.int .i64 (e1 : Int), .int .u64 (e2 : Int)] 67)
              have hR2 := hR.kept (grown_alloc wr (.cells #[.int .i64 (e1 : Int), .int .u64 (e2 : Int)] 67)) (by simp) (by simp)
              have hO2 := hown.alloc (.cells #[.int .i64 (e1 : Int), .int .u64 (e2 : Int)] 67)
              have hU2 : rb < (wr.alloc (.cells #[.int .i64 (e1 : Int), .int .u64 (e2 : Int)] 67)).heap.size := by simp; omega
              clear hta hek f0 f1 hcs heq hemem hM hKp hBe hR hown hU
              by_cases hin : e1 ∈ pq
              · have hc1 : (setF pq e1).getD 0 = 1 := by simp [setF, hin]
                have hor := bits_or_u64_nat SS2 e2 HA2.out.1 p2
                have HA4 : Hid (AccOf (SS2 ||| e2) true (fun e => (∃ k, k ∈ pq ∧ left k = false ∧ e ∈ stepsOf g l k ∧ e.1 ∈ pq) ∨ (e ∈ L.take (i + 1) ∧ e.1 ∈ pq))) := by
                  refine (HA2.out.add (e0 := (e1, e2)) p2).congr fun e' => ?_
                  rw [hEx.out e']
                  constructor
                  · rintro ((h | ⟨h1, h2⟩) | h)
                    · exact .inl h
                    · exact .inr ⟨.inl h1, h2⟩
                    · subst h; exact .inr ⟨.inr rfl, hin⟩
                  · rintro (h | ⟨h1 | h1, h2⟩)
                    · exact .inl (.inl h)
                    · exact .inl (.inr ⟨h1, h2⟩)
                    · exact .inr h1
                go_wp2_with (at_lookup; refine wpList_igetc _ rfl (.tmp 66) (.tmp 68) rfl rfl hR2.map e1 rfl p1 hNN 1 hc1 ?_)
                go_wp2
                exact ⟨⟨i + 1, SS2 ||| e2, true, rfl, by omega, rfl, rfl, HA4, hR2, hM2, hKp2, hBe2, hU2, hO2⟩, by simp [intOf]; omega⟩
              · have hc1 : (setF pq e1).getD 0 = 0 := by simp [setF, hin]
                have HA4 : Hid (AccOf SS2 RR2 (fun e => (∃ k, k ∈ pq ∧ left k = false ∧ e ∈ stepsOf g l k ∧ e.1 ∈ pq) ∨ (e ∈ L.take (i + 1) ∧ e.1 ∈ pq))) := by
                  refine HA2.out.congr fun e' => ?_
                  rw [hEx.out e']
                  constructor
                  · rintro (h | ⟨h1, h2⟩)
                    · exact .inl h
                    · exact .inr ⟨.inl h1, h2⟩
                  · rintro (h | ⟨h1 | h1, h2⟩)
                    · exact .inl h
                    · exact .inr ⟨h1, h2⟩
                    · subst h1; exact absurd h2 hin
                go_wp2_with (at_lookup; refine wpList_igetc _ rfl (.tmp 66) (.tmp 68) rfl rfl hR2.map e1 rfl p1 hNN 0 hc1 ?_)
                go_wp2
                exact ⟨⟨i + 1, SS2, RR2, rfl, by omega, rfl, rfl, HA4, hR2, hM2, hKp2, hBe2, hU2, hO2⟩, by simp [intOf]; omega⟩
            · have hil' : decide ((i : Int) < (nL : Int)) = false := decide_eq_false (by omega)
              have HA3 : Hid (AccOf SS2 RR2 (fun e => ∃ k, k ∈ pq ∧ (fun z => left z && !(z == y)) k = false ∧ e ∈ stepsOf g l k ∧ e.1 ∈ pq)) := by
                have hfin : L.take i = L := List.take_of_length_le (by rw [HNL.out]; omega)
                refine HA2.out.congr fun e => ?_
                rw [hfin, ← HL.out]
                constructor
                · rintro (⟨k, k1, k2, k3, k4⟩ | ⟨k3, k4⟩)
                  · exact ⟨k, k1, by simp [k2], k3, k4⟩
                  · exact ⟨y, hyp, by simp, k3, k4⟩
                · rintro ⟨k, k1, k2, k3, k4⟩
                  by_cases hky : k = y
                  · subst hky; exact .inr ⟨k3, k4⟩
                  · exact .inl ⟨k, k1, by simpa [hky] using k2, k3, k4⟩
              have hc3 := hR.left_eq
              go_wp2
              refine ⟨⟨SS2, RR2, _, cnt3, rfl, rfl, HA3.out, hR, hM, hKp, hBe, hU⟩, ?_⟩
              rw [hc3, hcnt]; exact hlt
end Go.Proofs.YtelanndleinabaaDoor
