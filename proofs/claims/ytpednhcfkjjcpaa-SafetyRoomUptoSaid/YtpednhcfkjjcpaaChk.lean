/- The walk of net.Check (printed by mkchk.py). -/
import Derived.Test.YtpednhcfkjjcpaaSet
import Derived.Deep.DeepCutAuto
namespace Go.Proofs.Ytpednhcfkjjcpaa
open Go.RowKit
set_option linter.unusedVariables false
set_option linter.unusedSimpArgs false

theorem total_take {n : PNet} {k : Nat} (h : k < n.length) : total (n.take (k + 1)) = total (n.take k) + n[k].arcs.length := by
  unfold total
  rw [List.take_add_one, List.getElem?_eq_getElem h]
  simp only [Option.toList_some, List.map_append, List.sum_append, List.map_cons, List.map_nil, List.sum_cons, List.sum_nil, Nat.add_zero]
theorem total_le {n : PNet} {k : Nat} : total (n.take k) ≤ total n := by
  unfold total
  conv => rhs; rw [← List.take_append_drop k n]
  simp only [List.map_append, List.sum_append]
  exact Nat.le_add_right _ _
theorem node_le {n : PNet} {k : Nat} (h : k < n.length) : n[k].arcs.length ≤ total n := by
  have h1 := total_take h
  have h2 := total_le (n := n) (k := k + 1)
  omega
theorem chk_false {n : PNet} {i j : Nat} (hi : i < n.length) (hj : j < n[i].arcs.length) (h : chkArc n.length n[i].arcs[j] = false) : chk n = false := by
  cases hc : chk n with
  | false => rfl
  | true =>
    unfold chk at hc
    simp only [Bool.and_eq_true] at hc
    have h1 := List.all_eq_true.1 hc.1.2 n[i] (List.getElem_mem hi)
    have h2 := List.all_eq_true.1 h1 _ (List.getElem_mem hj)
    rw [h] at h2; cases h2
theorem chk_size {n : PNet} (h : n.length < 1 ∨ 20000 < n.length) : chk n = false := by
  unfold chk
  rcases h with h | h
  · have : decide (1 ≤ n.length) = false := decide_eq_false (by omega)
    simp [this]
  · have : decide (n.length ≤ 20000) = false := decide_eq_false (by omega)
    simp [this]
/-- What is asked of a graph's lengths. -/
structure Small (n : PNet) : Prop where
  nodes : n.length ≤ 2000000
  arcs : total n ≤ 2000000
  reads : ∀ (i : Nat) (hi : i < n.length) (j : Nat) (hj : j < n[i].arcs.length), n[i].arcs[j].reads.length ≤ 2000000 ∧ n[i].arcs[j].writes.length ≤ 2000000
def errC (b : Bool) : Value := .int .i64 (if b then 0 else 150)
def ChkPost (n : PNet) (w : World) (e : Ending) (w' : World) : Prop := e = .returned (errC (chk n)) ∧ Below w.heap.size w w'
set_option maxHeartbeats 4000000 in
set_option maxRecDepth 100000 in
theorem checkFn {P : Nat → Prop} {w : World} {n : PNet} {v : Value} (h : NetV P w v n) (hs : Small n) : Calls Try.prog 21 #[.agg #[v]] w (ChkPost n w) := by
  obtain ⟨f, hr, hg⟩ := h
  obtain ⟨a, c, rfl, hc1, _, _⟩ := hr.form
  obtain ⟨M, hM⟩ : ∃ M, n.length = M := ⟨_, rfl⟩
  have hB0 : Below w.heap.size w (w.alloc (.cells #[.slice a M c] 24)) := (Below.refl _ _).alloc (Nat.le_refl _) _
  have H := Lib.hid (hr.up (Keep.below hB0))
  have G := Lib.hid (LsF.up (fun _ _ => oneNode.up (Keep.below hB0)) _ hg)
  have HN := Lib.hid hM
  have HS := Lib.hid hs
  have HX0 := Lib.hid (Holds.new w 24 #[.slice a M c])
  have HB0 := Lib.hid hB0
  have hm := hs.nodes
  rw [hM] at hc1 hm ⊢
  clear hr hg hM hs hB0
  by_cases hs1 : M < 1
  · have d1 : decide ((M : Int) < 1) = true := decide_eq_true (by omega)
    have HF : Hid (∀ w2, Below w.heap.size w w2 → ChkPost n w (.returned (.int .i64 150)) w2) := fun w2 hb => ⟨by rw [chk_size (.inl (by rw [HN.out]; exact hs1))]; rfl, hb⟩
    go_enter Try.func21, Try.ntmps21
    go_wp2
    go_ret
    exact HF.out _ HB0.out
  · have d1 : decide ((M : Int) < 1) = false := decide_eq_false (by omega)
    by_cases hs2 : 20000 < M
    · have d2 : decide ((20000 : Int) < (M : Int)) = true := decide_eq_true (by omega)
      have HF : Hid (∀ w2, Below w.heap.size w w2 → ChkPost n w (.returned (.int .i64 150)) w2) := fun w2 hb => ⟨by rw [chk_size (.inr (by rw [HN.out]; exact hs2))]; rfl, hb⟩
      go_enter Try.func21, Try.ntmps21
      go_wp2
      go_ret
      exact HF.out _ HB0.out
    · have d2 : decide ((20000 : Int) < (M : Int)) = false := decide_eq_false (by omega)
      go_enter Try.func21, Try.ntmps21
      go_upto_region 4 with (fail)
      obtain ⟨w0, hw0⟩ : ∃ W, W = w.alloc (.cells #[.slice a M c] 24) := ⟨_, rfl⟩
      rw [← hw0] at HX0 HB0 H G ⊢
      have e0 := HX0.out.cell 0
      simp only [List.getElem?_cons_zero] at e0
      clear hw0 HX0 d1 d2
      go_wp2
      clear e0
      go_loopw [4, 21] (fun y x wr => ∃ (i t : Nat), x = .int .i64 (i : Int) ∧ y = .int .i64 (t : Int) ∧ i ≤ M ∧ Hid (total (n.take i) = t) ∧ Hid (∀ (j : Nat) (hj : j < n.length), j < i → n[j].arcs.all (chkArc n.length) = true) ∧ Hid (Below w0.heap.size w0 wr)) (fun _ x _ => M - (intOf x).toNat)
      case atStart => exact ⟨0, 0, rfl, rfl, Nat.zero_le _, rfl, fun j _ hj => by omega, Below.refl _ _⟩
      case round =>
        obtain ⟨i, tt, hx, hy, hi, HT, HA, HB⟩ := hrel
        subst hx hy
        by_cases hin : i < M
        · have hi2i : (i : Int) < (M : Int) := by omega
          have hi0i : (0 : Int) ≤ (i : Int) := by omega
          have hwii : IntKind.i64.wrap (i : Int) = (i : Int) := by rw [IntKind.wrap_i64]; omega
          have hwji : IntKind.i64.wrap ((i : Int) + 1) = (i : Int) + 1 := by rw [IntKind.wrap_i64]; omega
          have hil : i < n.length := by rw [HN.out]; exact hin
          obtain ⟨gb, ob, cb, c, he1, hG1, hr1⟩ := (H.out.up (Keep.below HB.out)).atN oneNode (LsF.up (fun _ _ => oneNode.up (Keep.below HB.out)) _ G.out) hil
          injection he1 with he1 _ he1'
          subst he1 he1'
          have hl1 := oneNode.len hG1
          have hs1 : (Try.prog.info? 81).map (·.size) = some c.length := by rw [hl1]; exact sz_Node
          have HO1 := Lib.hid (oneNode.one hG1)
          have hZ : Holds (wr.alloc (.cells #[.slice none 0 0, .int .u64 0, .bool false, .bool false, .bool false] 81)) wr.heap.size 81 [.slice none 0 0, .int .u64 0, .bool false, .bool false, .bool false] := Holds.new wr 81 #[.slice none 0 0, .int .u64 0, .bool false, .bool false, .bool false]
          have HZ := Lib.hid hZ
          have HR1 := Lib.hid hr1
          have HG1 := Lib.hid hG1
          clear hr1 hG1 hZ
          go_wp2_with (first | (refine wpList_load_mid rfl 81 _ rfl gb (ob + i * 5) rfl c _ HR1.out Try.underlying81 rfl hs1 ?_) | (refine wpList_storeB rfl 81 _ _ rfl wr.heap.size 0 c rfl rfl HZ.out (by rw [hl1]; exact Nat.le_of_ble_eq_true rfl) hs1 HO1.out ?_))
          refine Named.mk (fun w7 hW => ?_)
          have hB7 : Below wr.heap.size wr w7 := by rw [hW]; exact Below.far (Below.refl _ _) (Nat.le_refl _) _ _ _
          have hD7 := HZ.out.stored hW (by rw [hl1]; exact Nat.le_of_ble_eq_true rfl)
          rw [List.take_zero, List.nil_append, List.drop_of_length_le (by rw [hl1]; exact Nat.le_of_ble_eq_true rfl), List.append_nil] at hD7
          have hG7 := oneNode.up (Keep.below hB7) HG1.out
          have HB7 := Lib.hid hB7
          have hX7 := hD7
          clear hW hB7 HZ HR1 HG1 hl1 hs1 HO1 hD7
          obtain ⟨X, hX⟩ : ∃ X, wr.heap.size = X := ⟨_, rfl⟩
          rw [hX] at hX7 ⊢
          clear hX
          obtain ⟨x, hx⟩ : ∃ x, n[i] = x := ⟨_, rfl⟩
          rw [hx] at hG7
          obtain ⟨va, rfl, fa, ra, ga⟩ := hG7
          obtain ⟨aa, ac, rfl, hac, _, _⟩ := ra.form
          obtain ⟨K, hK⟩ : ∃ K, x.arcs.length = K := ⟨_, rfl⟩
          have htk := total_take hil
          rw [hx, HT.out, hK] at htk
          have htl : tt + K ≤ 2000000 := by have := total_le (n := n) (k := i + 1); have := HS.out.arcs; omega
          have HT2 := Lib.hid htk
          have hwt : IntKind.i64.wrap ((tt : Int) + (K : Int)) = (tt : Int) + (K : Int) := by rw [IntKind.wrap_i64]; omega
          have HRA := Lib.hid ra
          have HGA := Lib.hid ga
          have HK := Lib.hid hK
          have HXX := Lib.hid hx
          have e7 := hX7.cell 0
          simp only [List.getElem?_cons_zero] at e7
          rw [hK] at e7 hac
          have HB8 := Lib.hid (HB.out.trans (HB7.out.mono HB.out.size))
          have hkm : K ≤ 2000000 := by omega
          clear hX7 ra ga hK hx htk htl HB7 HT
          go_wp2
          clear e7 hwt
          go_loopw [33] (fun z wx => ∃ k : Nat, z = .int .i64 (k : Int) ∧ k ≤ K ∧ Hid (∀ (j : Nat) (hj : j < x.arcs.length), j < k → chkArc n.length x.arcs[j] = true) ∧ Hid (Below w7.heap.size w7 wx)) (fun z _ => K - (intOf z).toNat)
          case atStart => exact ⟨0, rfl, Nat.zero_le _, fun j _ hj => by omega, Below.refl _ _⟩
          case round =>
            obtain ⟨k, hz, hk, HC, HD⟩ := hrel
            subst hz
            by_cases hkn : k < K
            · have hi2k : (k : Int) < (K : Int) := by omega
              have hi0k : (0 : Int) ≤ (k : Int) := by omega
              have hwik : IntKind.i64.wrap (k : Int) = (k : Int) := by rw [IntKind.wrap_i64]; omega
              have hwjk : IntKind.i64.wrap ((k : Int) + 1) = (k : Int) + 1 := by rw [IntKind.wrap_i64]; omega
              have hkl : k < x.arcs.length := by rw [HK.out]; exact hkn
              obtain ⟨gb, ob, cb, c, he1, hG1, hr1⟩ := (HRA.out.up (Keep.below HD.out)).atN oneArc (LsF.up (fun _ _ => oneArc.up (Keep.below HD.out)) _ HGA.out) hkl
              injection he1 with he1 _ he1'
              subst he1 he1'
              have hl1 := oneArc.len hG1
              have hs1 : (Try.prog.info? 86).map (·.size) = some c.length := by rw [hl1]; exact sz_Arc
              have HO1 := Lib.hid (oneArc.one hG1)
              have hZ : Holds (wr.alloc (.cells #[.int .i64 0, .int .i64 0, .int .i64 0, .slice none 0 0, .slice none 0 0, .int .u64 0] 86)) wr.heap.size 86 [.int .i64 0, .int .i64 0, .int .i64 0, .slice none 0 0, .slice none 0 0, .int .u64 0] := Holds.new wr 86 #[.int .i64 0, .int .i64 0, .int .i64 0, .slice none 0 0, .slice none 0 0, .int .u64 0]
              have HZ := Lib.hid hZ
              have HR1 := Lib.hid hr1
              have HG1 := Lib.hid hG1
              clear hr1 hG1 hZ
              go_wp2_with (first | (refine wpList_load_mid rfl 86 _ rfl gb (ob + k * 6) rfl c _ HR1.out Try.underlying86 rfl hs1 ?_) | (refine wpList_storeB rfl 86 _ _ rfl wr.heap.size 0 c rfl rfl HZ.out (by rw [hl1]; exact Nat.le_of_ble_eq_true rfl) hs1 HO1.out ?_))
              refine Named.mk (fun w8 hW => ?_)
              have hB7 : Below wr.heap.size wr w8 := by rw [hW]; exact Below.far (Below.refl _ _) (Nat.le_refl _) _ _ _
              have hD7 := HZ.out.stored hW (by rw [hl1]; exact Nat.le_of_ble_eq_true rfl)
              rw [List.take_zero, List.nil_append, List.drop_of_length_le (by rw [hl1]; exact Nat.le_of_ble_eq_true rfl), List.append_nil] at hD7
              have hG8 := oneArc.up (Keep.below hB7) HG1.out
              have HBy := Lib.hid hB7
              have hX8 := hD7
              clear hW hB7 HZ HR1 HG1 hl1 hs1 HO1 hD7
              obtain ⟨Y, hY⟩ : ∃ X, wr.heap.size = X := ⟨_, rfl⟩
              rw [hY] at hX8 ⊢
              clear hY
              obtain ⟨r, hr⟩ : ∃ r, x.arcs[k] = r := ⟨_, rfl⟩
              rw [hr] at hG8
              have HAR := Lib.hid hr
              obtain ⟨vr, vw, rfl, pr, pw⟩ := hG8
              obtain ⟨ra1, ra2, rfl, _, _, _⟩ := pr.form
              obtain ⟨wa1, wa2, rfl, _, _, _⟩ := pw.form
              obtain ⟨proc, tg, bad, reads, writes, turns⟩ := r
              dsimp only at hX8 pr pw
              have hlr : reads.length ≤ 2000000 ∧ writes.length ≤ 2000000 := by
                have := HS.out.reads i hil k (by rw [HXX.out]; exact hkl)
                simp only [HXX.out, HAR.out] at this
                exact this
              have f0 := hX8.cell 0
              have f1 := hX8.cell 1
              have f2 := hX8.cell 2
              have f3 := hX8.cell 3
              simp only [List.getElem?_cons_zero, List.getElem?_cons_succ] at f0 f1 f2 f3
              have HB9 := Lib.hid (HB8.out.trans ((HD.out.trans (HBy.out.mono HD.out.size)).mono HB8.out.size))
              have HB79 := Lib.hid (HD.out.trans (HBy.out.mono HD.out.size))
              have HY8 := Lib.hid hX8
              have HC1 := Lib.hid (setFn pr hlr.1)
              have HRW := Lib.hid pw
              have HLW := Lib.hid hlr.2
              obtain ⟨L1, hL1⟩ : ∃ L, reads.length = L := ⟨_, rfl⟩
              obtain ⟨L2, hL2⟩ : ∃ L, writes.length = L := ⟨_, rfl⟩
              rw [hL1] at f3 HC1
              have HL2 := Lib.hid hL2
              have HNO : Hid (chkArc n.length ⟨proc, tg, bad, reads, writes, turns⟩ = false → ∀ w2, Below w.heap.size w w2 → ChkPost n w (.returned (.int .i64 150)) w2) := fun hc w2 hb => ⟨by
                rw [chk_false (i := i) (j := k) hil (by rw [HXX.out]; exact hkl) (by simp only [HXX.out, HAR.out]; exact hc)]; rfl, hb⟩
              have HTOT := Lib.hid (HB0.out.trans (HB9.out.mono HB0.out.size))
              clear hX8 pr pw hr hL1 hL2 hlr
              by_cases q1 : proc < -1
              · have c1 : decide (proc < -1) = true := decide_eq_true q1
                have HF := Lib.hid (HNO.out (by
                  have : decide (-1 ≤ proc) = false := decide_eq_false (by omega)
                  simp [chkArc, this]))
                go_wp2
                go_ret
                exact HF.out _ HTOT.out
              · have c1 : decide (proc < -1) = false := decide_eq_false q1
                by_cases q2 : 15 < proc
                · have c2 : decide (15 < proc) = true := decide_eq_true q2
                  have HF := Lib.hid (HNO.out (by
                    have : decide (proc ≤ 15) = false := decide_eq_false (by omega)
                    simp [chkArc, this]))
                  go_wp2
                  go_ret
                  exact HF.out _ HTOT.out
                · have c2 : decide (15 < proc) = false := decide_eq_false q2
                  have HCB := Lib.hid (badFn bad w8)
                  go_wp2_with (fail)
                  refine HCB.out.mono ?_
                  rintro e w9 ⟨rfl, rfl⟩
                  clear HCB
                  by_cases q3 : bad < 0 ∨ 5 < bad
                  · have c3 : (decide (bad < 0) || decide (5 < bad)) = true := by simpa using q3
                    have HF := Lib.hid (HNO.out (by
                      have : (decide (0 ≤ bad) && decide (bad ≤ 5)) = false := by
                        rcases q3 with h | h
                        · simp; omega
                        · simp; omega
                      simp only [chkArc, Bool.and_assoc]
                      rw [← Bool.and_assoc (decide (0 ≤ bad)), this]
                      simp))
                    rw [c3]
                    go_wp2
                    go_ret
                    exact HF.out _ HTOT.out
                  · have c3 : (decide (bad < 0) || decide (5 < bad)) = false := by simpa using q3
                    rw [c3]
                    go_wp2_with (fail)
                    refine HC1.out.mono ?_
                    rintro e w10 ⟨rfl, hb10⟩
                    have HT10 := Lib.hid (HTOT.out.trans (hb10.mono HTOT.out.size))
                    have HB10 := Lib.hid hb10
                    clear HC1
                    by_cases q4 : pset reads = true
                    · rw [q4]
                      have g4 := (HY8.out.belowAll hb10).cell 4
                      simp only [List.getElem?_cons_zero, List.getElem?_cons_succ] at g4
                      rw [HL2.out] at g4
                      have hcw := setFn (HRW.out.up (Keep.below hb10)) HLW.out
                      rw [HL2.out] at hcw
                      have HC2 := Lib.hid hcw
                      clear hb10 hcw f0 f1 f2 f3 c1 c2 c3
                      go_wp2_with (fail)
                      refine HC2.out.mono ?_
                      rintro e w11 ⟨rfl, hb11⟩
                      have HT11 := Lib.hid (HT10.out.trans (hb11.mono HT10.out.size))
                      have hb8 := HB10.out.trans (hb11.mono HB10.out.size)
                      have g1 := (HY8.out.belowAll hb8).cell 1
                      have g2 := (HY8.out.belowAll hb8).cell 2
                      simp only [List.getElem?_cons_zero, List.getElem?_cons_succ] at g1 g2
                      have HB11 := Lib.hid (HB79.out.trans (hb8.mono HB79.out.size))
                      clear HC2 hb11 hb8 g4
                      by_cases q5 : pset writes = true
                      · rw [q5]
                        by_cases q6 : tg < 0
                        · have c6 : decide (tg < 0) = true := decide_eq_true q6
                          have HF := Lib.hid (HNO.out (by
                            have : decide (0 ≤ tg) = false := decide_eq_false (by omega)
                            simp [chkArc, this]))
                          go_wp2
                          go_ret
                          exact HF.out _ HT11.out
                        · have c6 : decide (tg < 0) = false := decide_eq_false q6
                          by_cases q7 : (M : Int) ≤ tg
                          · have c7 : decide ((M : Int) ≤ tg) = true := decide_eq_true q7
                            have HF := Lib.hid (HNO.out (by
                              have : decide (tg < (n.length : Int)) = false := decide_eq_false (by rw [HN.out]; omega)
                              simp [chkArc, this]))
                            go_wp2
                            go_ret
                            exact HF.out _ HT11.out
                          · have c7 : decide ((M : Int) ≤ tg) = false := decide_eq_false q7
                            by_cases q8 : bad = 0
                            · have c8 : (bad != 0) = false := by simp [q8]
                              have HOK : Hid (∀ (j : Nat) (hj : j < x.arcs.length), j < k + 1 → chkArc n.length x.arcs[j] = true) := fun j hj hjk => by
                                rcases Nat.lt_or_ge j k with h | h
                                · exact HC.out j hj h
                                · obtain rfl : j = k := by omega
                                  rw [HAR.out]
                                  unfold chkArc
                                  simp only [q4, q5, HN.out]
                                  simp
                                  omega
                              clear HC
                              go_wp2
                              refine ⟨⟨k + 1, by simp, by omega, HOK, HB11⟩, ?_⟩
                              simp [intOf]
                              omega
                            · have c8 : (bad != 0) = true := by simpa using q8
                              by_cases q9 : tg = 0
                              · have c9 : (tg != 0) = false := by simp [q9]
                                have HOK : Hid (∀ (j : Nat) (hj : j < x.arcs.length), j < k + 1 → chkArc n.length x.arcs[j] = true) := fun j hj hjk => by
                                  rcases Nat.lt_or_ge j k with h | h
                                  · exact HC.out j hj h
                                  · obtain rfl : j = k := by omega
                                    rw [HAR.out]
                                    unfold chkArc
                                    simp only [q4, q5, HN.out]
                                    simp
                                    omega
                                clear HC
                                go_wp2
                                refine ⟨⟨k + 1, by simp, by omega, HOK, HB11⟩, ?_⟩
                                simp [intOf]
                                omega
                              · have c9 : (tg != 0) = true := by simpa using q9
                                have HF := Lib.hid (HNO.out (by
                                  have h1 : (bad == 0) = false := by simpa using q8
                                  have h2 : (tg == 0) = false := by simpa using q9
                                  simp [chkArc, h1, h2]))
                                go_wp2
                                go_ret
                                exact HF.out _ HT11.out
                      · have q5' : pset writes = false := by simpa using q5
                        rw [q5']
                        have HF := Lib.hid (HNO.out (by simp [chkArc, q5']))
                        go_wp2
                        go_ret
                        exact HF.out _ HT11.out
                    · have q4' : pset reads = false := by simpa using q4
                      rw [q4']
                      have HF := Lib.hid (HNO.out (by simp [chkArc, q4']))
                      go_wp2
                      go_ret
                      exact HF.out _ HT10.out
            · have hk3 : k = K := by omega
              subst hk3
              have HA2 : Hid (∀ (j : Nat) (hj : j < n.length), j < i + 1 → n[j].arcs.all (chkArc n.length) = true) := fun j hj hji => by
                rcases Nat.lt_or_ge j i with h | h
                · exact HA.out j hj h
                · obtain rfl : j = i := by omega
                  rw [HXX.out]
                  refine List.all_eq_true.2 fun r hr => ?_
                  obtain ⟨q, hq, rfl⟩ := List.mem_iff_getElem.1 hr
                  exact HC.out q hq (by rw [← HK.out]; exact hq)
              have HBn := Lib.hid (HB8.out.trans (HD.out.mono HB8.out.size))
              clear HC HA HD
              go_wp2
              refine ⟨⟨i + 1, tt + k, by simp, by simp, by omega, HT2, HA2, HBn⟩, ?_⟩
              simp [intOf]
              omega
        · have hi3 : i = M := by omega
          subst hi3
          have htt : total n = tt := by rw [← HT.out, List.take_of_length_le (by rw [HN.out]; exact Nat.le_refl _)]
          have hall : n.all (fun x => x.arcs.all (chkArc n.length)) = true := List.all_eq_true.2 fun x hx => by
            obtain ⟨q, hq, rfl⟩ := List.mem_iff_getElem.1 hx
            exact HA.out q hq (by rw [← HN.out]; exact hq)
          have hck : chk n = decide (tt ≤ 262144) := by
            unfold chk
            rw [hall, htt]
            have h1 : decide (1 ≤ n.length) = true := decide_eq_true (by rw [HN.out]; omega)
            have h2 : decide (n.length ≤ 20000) = true := decide_eq_true (by rw [HN.out]; omega)
            rw [h1, h2]
            simp
          have HBn := Lib.hid (HB0.out.trans (HB.out.mono HB0.out.size))
          by_cases hq : 262144 < tt
          · have d3 : decide ((262144 : Int) < (tt : Int)) = true := decide_eq_true (by omega)
            have HF : Hid (ChkPost n w (.returned (.int .i64 150)) wr) := ⟨by rw [hck, decide_eq_false (by omega)]; rfl, HBn.out⟩
            clear HT HA htt hall hck HB HBn
            go_wp2
            go_ret
            exact HF.out
          · have d3 : decide ((262144 : Int) < (tt : Int)) = false := decide_eq_false (by omega)
            have HF : Hid (ChkPost n w (.returned (.int .i64 0)) wr) := ⟨by rw [hck, decide_eq_true (by omega)]; rfl, HBn.out⟩
            clear HT HA htt hall hck HB HBn
            go_wp2
            go_ret
            exact HF.out
end Go.Proofs.Ytpednhcfkjjcpaa
