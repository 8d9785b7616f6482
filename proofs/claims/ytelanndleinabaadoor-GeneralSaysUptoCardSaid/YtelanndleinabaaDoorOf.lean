/- The walk of Of. -/
import Derived.Test.YtelanndleinabaaDoorOfS
namespace Go.Proofs.YtelanndleinabaaDoor
open Go.RowKit
set_option linter.unusedVariables false

attribute [local irreducible] wpStill
set_option maxHeartbeats 4000000 in
set_option maxRecDepth 100000 in
theorem ofFn (a : Alt) (v : Value) (w : World) (hA : AltAt w.heap.size w v a) (hb : movesN a.states ≤ 4000000) (hN : a.states.length ≤ 100) :
    Calls Tryd.prog 16 #[v] w fun e w' => OfPost w a e w' := by
  have hmf : ∀ (fn : Fn) (first cap : Array Value) (w : World), (Instr.makeFunc fn first cap).run Tryd.prog w = .ok (.func fn first cap) w := fun _ _ _ _ => rfl
  obtain ⟨x, y, rfl, hx, hy⟩ := hA
  have hB0 : Below w.heap.size w (((w.alloc (.cells #[x, y] 39)).alloc (.cells #[.int .i64 0, .slice none 0 0, .slice none 0 0] 25)).alloc (.cells #[.int .i64 0] 29)) := (((Below.refl _ _).alloc (Nat.le_refl _) _).alloc (by simp) _).alloc (by simp; omega) _
  have HC := Lib.hid (altCheck a (.agg #[x, y]) _ ⟨x, y, rfl, (hx.below hB0).mono hB0.size, (hy.below hB0).mono hB0.size⟩ hb (by omega))
  have hA0 : Holds (((w.alloc (.cells #[x, y] 39)).alloc (.cells #[.int .i64 0, .slice none 0 0, .slice none 0 0] 25)).alloc (.cells #[.int .i64 0] 29)) w.heap.size 39 [x, y] := ((Holds.new w 39 #[x, y]).alloc _).alloc _
  have hG0 : Holds (((w.alloc (.cells #[x, y] 39)).alloc (.cells #[.int .i64 0, .slice none 0 0, .slice none 0 0] 25)).alloc (.cells #[.int .i64 0] 29)) (w.heap.size + 1) 25 [.int .i64 0, .slice none 0 0, .slice none 0 0] := by
    have := (Holds.new (w.alloc (.cells #[x, y] 39)) 25 #[.int .i64 0, .slice none 0 0, .slice none 0 0]).alloc (.cells #[.int .i64 0] 29)
    rwa [show (w.alloc (.cells #[x, y] 39)).heap.size = w.heap.size + 1 by simp] at this
  have hE0 : Holds (((w.alloc (.cells #[x, y] 39)).alloc (.cells #[.int .i64 0, .slice none 0 0, .slice none 0 0] 25)).alloc (.cells #[.int .i64 0] 29)) (w.heap.size + 1 + 1) 29 [.int .i64 0] := by
    have := Holds.new ((w.alloc (.cells #[x, y] 39)).alloc (.cells #[.int .i64 0, .slice none 0 0, .slice none 0 0] 25)) 29 #[.int .i64 0]
    rwa [show ((w.alloc (.cells #[x, y] 39)).alloc (.cells #[.int .i64 0, .slice none 0 0, .slice none 0 0] 25)).heap.size = w.heap.size + 1 + 1 by simp] at this
  have HB0 := Lib.hid hB0
  have HA0 := Lib.hid hA0
  have HG0 := Lib.hid hG0
  have HE0 := Lib.hid hE0
  obtain ⟨a1, cap1, rfl, hc1, hm1⟩ := hx.form
  obtain ⟨a2, cap2, rfl, hc2, hm2⟩ := hy.form
  have HX := Lib.hid hx
  have HY := Lib.hid hy
  obtain ⟨N, hNe⟩ : ∃ N, a.states.length = N := ⟨_, rfl⟩
  obtain ⟨q, hqe⟩ : ∃ q, a.init.length = q := ⟨_, rfl⟩
  rw [hNe, hqe] at HC HB0 HA0 HG0 HE0
  rw [hNe] at hc2 hN HY
  rw [hqe] at hc1 HX
  have c0 := HA0.out.cell 0
  have c1 := HA0.out.cell 1
  simp only [List.getElem?_cons_zero, List.getElem?_cons_succ] at c0 c1
  have HNE := Lib.hid hNe
  have HQE := Lib.hid hqe
  rw [hNe, hqe]
  clear hB0 hA0 hG0 hE0 hx hy hNe hqe
  by_cases hok : altOk a
  · have hcode : altCode a = 0 := if_pos hok
    have hmm := @run_makeMap Tryd.prog
    obtain ⟨FIN, hFIN⟩ : ∃ F, finI a.states 0 = F := ⟨_, rfl⟩
    have HFIN := Lib.hid hFIN
    have HF0 : Hid ([] ++ finI (a.states.drop 0) 0 = FIN) := hFIN
    go_enter_defers Tryd.func16, Tryd.ntmps16
    go_wp2_with (go_at_call 29; refine (HC.out).mono ?_; rintro e W1 ⟨rfl, hb1⟩; rw [hcode]; have hal5 : Below W1.heap.size W1 ((W1.alloc (.map #[] 0)).alloc (.cells #[.slice a1 q cap1, .slice a2 N cap2, .slice none 0 0, .map (some W1.heap.size), .slice none 0 0, .int .i64 0] 84)) := ((Below.refl _ _).alloc (Nat.le_refl _) _).alloc (by simp) _; have hA5 := Lib.hid ((HA0.out.belowAll hb1).belowAll hal5); have hG5 := Lib.hid ((HG0.out.belowAll hb1).belowAll hal5); have hE5 := Lib.hid ((HE0.out.belowAll hb1).belowAll hal5); have hM5 := Lib.hid (MkM.start (β := w.heap.size) W1 (Nat.le_trans HB0.out.size hb1.size) (.slice a1 q cap1) (.slice a2 N cap2)); have hB5 := Lib.hid ((HB0.out.trans (hb1.mono HB0.out.size)).trans (hal5.mono (Nat.le_trans HB0.out.size hb1.size))); have d0 := (HA0.out.belowAll hb1).cell 0; have d1 := (HA0.out.belowAll hb1).cell 1; have d5 := hA5.out.cell 1; simp only [List.getElem?_cons_zero, List.getElem?_cons_succ] at d0 d1 d5)
    generalize hbg : w.heap.size + 1 = bg at *
    generalize hbe : bg + 1 = be at *
    go_loopw [27] (fun y wr => ∃ (k : Nat) (fin : List Int) (vf : Value), y = .int .i64 (k : Int) ∧ k ≤ N ∧ fin.length ≤ k ∧ Hid (fin ++ finI (a.states.drop k) k = FIN) ∧ Hid (wr.ownsRow w.heap.size 3 1 vf fin.length (ints fin)) ∧ Hid (MkM w.heap.size (W1.heap.size + 1) W1.heap.size wr (.slice a1 q cap1) (.slice a2 N cap2) vf (.slice none 0 0) [] [] 0) ∧ Hid (Holds wr w.heap.size 39 [.slice a1 q cap1, .slice a2 N cap2]) ∧ Hid (Holds wr bg 25 [.int .i64 0, .slice none 0 0, .slice none 0 0]) ∧ Hid (Holds wr be 29 [.int .i64 0]) ∧ Hid (Below w.heap.size w wr)) (fun y _ => (N + 10 - intOf y).toNat)
    case atStart => exact ⟨0, [], .slice none 0 0, rfl, Nat.zero_le _, Nat.zero_le _, HF0, World.ownsRow_nil _ _ _ _, hM5, hA5, hG5, hE5, hB5⟩
    case round =>
      clear hA5 hG5 hE5 hM5 hB5 d0 d1 d5
      obtain ⟨k, fin, vf, rfl, hk, hfk, H1, HF, HM, HA, HG, HE, HB⟩ := hrel
      obtain ⟨W2, rfl⟩ : ∃ W, W = wr := ⟨wr, rfl⟩
      by_cases hkn : k < N
      · have hkn' : (k : Int) < (N : Int) := by omega
        obtain ⟨gs, os, us, rfl, hgs, e0, e1, hus⟩ := (HY.out.below HB.out).at (k := k) (by rw [HNE.out]; exact hkn)
        obtain ⟨a6, cap6, rfl, _, _⟩ := hus.form
        have hsq : a.states[k]? = some (a.states[k]'(by rw [HNE.out]; exact hkn)) := List.getElem?_eq_getElem _
        have hdr := drop_at hsq
        generalize a.states[k]'(by rw [HNE.out]; exact hkn) = st at e0 e1 hsq hdr
        obtain ⟨sb, sm⟩ := st
        simp only at e0 e1
        obtain ⟨ml, hml⟩ : ∃ ml, sm.length = ml := ⟨_, rfl⟩
        rw [hml] at e1
        obtain ⟨fl, hfl⟩ : ∃ fl, fin.length = fl := ⟨_, rfl⟩
        obtain ⟨av, cv, rfl, hcv, hmv⟩ := owns_form HF.out
        rw [hfl] at HF hfk hcv HM
        have hβ2 : w.heap.size ≤ W2.heap.size := HB.out.size
        cases sb with
        | false =>
          have hal : Below W2.heap.size W2 (W2.alloc (.cells #[.bool false, .slice a6 ml cap6] 77)) := (Below.refl _ _).alloc (Nat.le_refl _) _
          have H1' : Hid (fin ++ finI (a.states.drop (k + 1)) (k + 1) = FIN) := by
            have := H1.out
            rw [hdr] at this
            exact this
          have HF3 := Lib.hid ((Fr.of_below hal (fun _ => False)).owns HF.out (fun _ _ h => h))
          have HM3 := Lib.hid (HM.out.below hal)
          have HA3 := Lib.hid (HA.out.belowAll hal)
          have HG3 := Lib.hid (HG.out.belowAll hal)
          have HE3 := Lib.hid (HE.out.belowAll hal)
          have HB3 := Lib.hid (HB.out.trans (hal.mono hβ2))
          clear hal
          go_wp2
          go_roundw
          case rel => exact ⟨k + 1, fin, _, rfl, by omega, by omega, H1', by rw [hfl]; exact HF3, HM3, HA3, HG3, HE3, HB3⟩
          case measure => simp [intOf]; omega
        | true =>
          have hal : Below W2.heap.size W2 (W2.alloc (.cells #[.bool true, .slice a6 ml cap6] 77)) := (Below.refl _ _).alloc (Nat.le_refl _) _
          have hal4 : Below W2.heap.size W2 ((W2.alloc (.cells #[.bool true, .slice a6 ml cap6] 77)).alloc (.cells #[.int .i64 (k : Int)] 3)) := hal.alloc hal.size _
          have H1' : Hid ((fin ++ [(k : Int)]) ++ finI (a.states.drop (k + 1)) (k + 1) = FIN) := by
            have := H1.out
            rw [hdr] at this
            rw [List.append_assoc]
            exact this
          have hM3 := HM.out.below hal
          have m2 := hM3.t.cell 2
          simp only [List.getElem?_cons_zero, List.getElem?_cons_succ] at m2
          have hF4 := (Fr.of_below hal4 (fun _ => False)).owns HF.out (fun _ _ h => h)
          have hM4 := HM.out.below hal4
          have hA4 := HA.out.belowAll hal4
          have hG4 := HG.out.belowAll hal4
          have hE4 := HE.out.belowAll hal4
          have hB4 := HB.out.trans (hal4.mono hβ2)
          have HA4 := Lib.hid hA4
          have HG4 := Lib.hid hG4
          have HE4 := Lib.hid hE4
          have HM4 := Lib.hid hM4
          have HB4 := Lib.hid hB4
          have hs4 := hal4.size
          obtain ⟨i0, hi0, hz0, hz1, hz2⟩ := info_parts Tryd.info3i
          clear hal hal4 hA4 hG4 hE4 hM4 hB4 hM3
          go_wp2_with (at_builtin; refine wpList_append_own_at _ rfl (.tmp 38) (.tmp 40) _ rfl w.heap.size 3 i0 _ 1 8 Tryd.underlying22 hi0 hz0 hz1 hz2 rfl (by omega) (.slice av fl cv) fl (ints fin) rfl hF4 ⟨W2.heap.size + 1, 0, none⟩ 1 1 [.int .i64 (k : Int)] rfl rfl ?c1 ?c2 ?c3 ?c4 ?c5 ?_)
          case c1 => exact cells_of_new _ _ (by simp) [.int .i64 (k : Int)] 3
          case c2 => simp [Value.oneCell']
          case c3 => unfold maxLen; omega
          case c4 => omega
          case c5 => exact Nat.le_trans hβ2 (by simp; omega)
          intro v' w6 hS6 g6 _ _
          have hT6 := HM4.out.t.of_eq (g6.block _ HM4.out.t.lt (fun e => owns_ne_holds hF4 HM4.out.t (by decide) e.symm))
          have hA6 := own_kept hF4 g6 HA4.out (by decide)
          have hG6 := own_kept hF4 g6 HG4.out (by decide)
          have hE6 := own_kept hF4 g6 HE4.out (by decide)
          obtain ⟨f1, hf1⟩ : ∃ f1, fl + 1 = f1 := ⟨_, rfl⟩
          rw [hf1] at hS6
          obtain ⟨a7, c7, rfl, hc7, hm7⟩ := owns_form hS6
          have HM6 := Lib.hid (HM4.out.fin (vf' := .slice a7 f1 c7) hF4 g6)
          have HF6 := Lib.hid (own_put (i := 2) (u := .slice a7 f1 c7) hS6 hT6 (by decide))
          have HA6 := Lib.hid (hA6.far (p := ⟨W1.heap.size + 1, 2, none⟩) (hA6.ne_of_type hT6 (by decide)) (.slice a7 f1 c7))
          have HG6 := Lib.hid (hG6.far (p := ⟨W1.heap.size + 1, 2, none⟩) (hG6.ne_of_type hT6 (by decide)) (.slice a7 f1 c7))
          have HE6 := Lib.hid (hE6.far (p := ⟨W1.heap.size + 1, 2, none⟩) (hE6.ne_of_type hT6 (by decide)) (.slice a7 f1 c7))
          have HB6 := Lib.hid ((HB4.out.grown g6 (Nat.le_trans hβ2 hs4) (fun k e => (hF4.lt k e).1)).setCell (p := ⟨W1.heap.size + 1, 2, none⟩) HM4.out.bt.1 (.slice a7 f1 c7))
          have t2 := hT6.cell 2
          have t3 := hT6.free 2
          simp only [List.getElem?_cons_zero, List.getElem?_cons_succ] at t2
          clear hT6 hA6 hG6 hE6 hS6 g6 hF4
          go_wp2
          go_roundw
          case rel => exact ⟨k + 1, fin ++ [(k : Int)], _, rfl, by omega, by rw [List.length_append, List.length_singleton]; omega, H1', by rw [show (fin ++ [(k : Int)]).length = f1 by rw [List.length_append, List.length_singleton]; omega, show ints (fin ++ [(k : Int)]) = ints fin ++ [.int .i64 (k : Int)] by simp [ints]]; exact HF6, HM6, HA6, HG6, HE6, HB6⟩
          case measure => simp [intOf]; omega
      · have hkn' : decide ((k : Int) < (N : Int)) = false := decide_eq_false (by omega)
        have hfe : fin = FIN := by
          have := H1.out
          rw [List.drop_eq_nil_of_le (by rw [HNE.out]; omega)] at this
          simpa [finI] using this
        subst hfe
        obtain ⟨fl, hfl⟩ : ∃ fl, fin.length = fl := ⟨_, rfl⟩
        obtain ⟨av, cv, rfl, hcv, hmv⟩ := owns_form HF.out
        rw [hfl] at HF hfk hcv HM
        have m2 := HM.out.t.cell 2
        have g0 := HG.out.cell 0
        have gf := HG.out.free 0
        simp only [List.getElem?_cons_zero, List.getElem?_cons_succ] at m2 g0
        have hbgA : w.heap.size ≠ bg := by omega
        have hbgE : be ≠ bg := by omega
        have HA6 := Lib.hid (HA.out.far (p := ⟨bg, 0, none⟩) hbgA (.int .i64 (fl : Int)))
        have HG6 := Lib.hid (HG.out.put 0 (.int .i64 (fl : Int)))
        have HE6 := Lib.hid (HE.out.far (p := ⟨bg, 0, none⟩) hbgE (.int .i64 (fl : Int)))
        have HM6 := Lib.hid (HM.out.far (i := 0) (u := .int .i64 (fl : Int)) HG.out (by decide) (by decide) (by decide) (by omega))
        have HF6 := Lib.hid (own_put (i := 0) (u := .int .i64 (fl : Int)) HF.out HG.out (by decide))
        have HB6 := Lib.hid (HB.out.setCell (p := ⟨bg, 0, none⟩) (by simp; omega) (.int .i64 (fl : Int)))
        have x0 := HA6.out.cell 0
        have x1 := HG6.out.cell 0
        simp only [List.getElem?_cons_zero, List.set_cons_zero] at x0 x1
        by_cases h60 : fl ≤ 60
        · have h60' : decide ((60 : Int) < (fl : Int)) = false := decide_eq_false (by omega)
          obtain ⟨RI, hRI⟩ : ∃ RI, ofInit a.init [] [] = RI := ⟨_, rfl⟩
          have HRES : Hid (ofRes a = RI.bind fun r => (ofGo a.states fin 4097 0 r.1 0 []).map fun st => ⟨(fl : Int), r.2, st⟩) := by
            unfold ofRes Hid
            rw [HFIN.out, hfl, if_pos h60, hRI]
          have H2 : Hid (ofInit (a.init.drop 0) [] [] = RI) := hRI
          have HFIN2 := Lib.hid hfl
          clear hRI hfl H1 HA HG HE HM HF HB
          go_wp2
          go_loopw [59] (fun y wr => ∃ (k : Nat) (rows : List (List Int)) (init : List Int) (vr : Value) (rvs : List Value) (iv : Value), y = .int .i64 (k : Int) ∧ k ≤ q ∧ init.length ≤ k ∧ Hid (ofInit (a.init.drop k) rows init = RI) ∧ Hid (∀ x ∈ rows, SetN N x) ∧ Hid (MkM w.heap.size (W1.heap.size + 1) W1.heap.size wr (.slice a1 q cap1) (.slice a2 N cap2) (.slice av fl cv) vr rows rvs 0) ∧ Hid (∀ (i : Nat) (h : i < rows.length), ∃ u, rvs[i]? = some u ∧ RowI w.heap.size wr u rows[i]) ∧ Hid (wr.ownsRow w.heap.size 3 1 (.slice av fl cv) fl (ints fin)) ∧ Hid (wr.ownsRow w.heap.size 3 1 iv init.length (ints init)) ∧ Hid ((Value.slice av fl cv).ownBlock = none ∨ (Value.slice av fl cv).ownBlock ≠ iv.ownBlock) ∧ Hid (∀ n ∈ init, 0 ≤ n ∧ n ≤ 4096) ∧ Hid (Holds wr bg 25 [.int .i64 (fl : Int), iv, .slice none 0 0]) ∧ Hid (Holds wr be 29 [.int .i64 0]) ∧ Hid (Below w.heap.size w wr)) (fun y _ => (q + 10 - intOf y).toNat)
          case atStart => exact ⟨0, [], [], .slice none 0 0, [], .slice none 0 0, rfl, Nat.zero_le _, Nat.zero_le _, H2, (fun x hx => by cases hx), HM6, (fun i hi => by simp at hi), HF6, World.ownsRow_nil _ _ _ _, (by rcases HF6.out.2 with ⟨h, _⟩ | ⟨g, c, u, h, _⟩; (exact .inl (by rw [h]; rfl)); (exact .inr (by rw [h]; simp [Value.ownBlock]))), (fun n hn => by cases hn), HG6, HE6, HB6⟩
          case round =>
            clear H2 HM6 HF6 HG6 HE6 HB6 HA6 x0 x1 m2 g0 gf
            obtain ⟨k, rows, init, vr, rvs, iv, rfl, hk, hik, H2, HRN, HM, HRR, HF, HI, HD, HIB, HG, HE, HB⟩ := hrel
            obtain ⟨W2, rfl⟩ : ∃ W, W = wr := ⟨wr, rfl⟩
            obtain ⟨il, hil⟩ : ∃ il, init.length = il := ⟨_, rfl⟩
            obtain ⟨ai, ci, rfl, hci, hmi⟩ := owns_form HI.out
            rw [hil] at HI hik hci HG HD
            have HIL := Lib.hid hil
            clear hil
            by_cases hkq : k < q
            · have hkq' : (k : Int) < (q : Int) := by omega
              obtain ⟨gi, oi, ui, rfl, hgi, e0, hui⟩ := (HX.out.below HB.out).at (k := k) (by rw [HQE.out]; exact hkq)
              have hlq : a.init[k]? = some (a.init[k]'(by rw [HQE.out]; exact hkq)) := List.getElem?_eq_getElem _
              have hls := altOk_init hok _ (List.mem_of_getElem? hlq)
              rw [HNE.out] at hls
              have hdr := drop_at hlq
              generalize a.init[k]'(by rw [HQE.out]; exact hkq) = l at hui hlq hls hdr
              obtain ⟨a6, cap6, rfl, _, _⟩ := hui.form
              obtain ⟨ll, hll⟩ : ∃ ll, l.length = ll := ⟨_, rfl⟩
              rw [hll] at e0 hui
              have HST := Lib.hid (stateFn w.heap.size (W1.heap.size + 1) W1.heap.size 0 W2 _ _ _ vr rows rvs (.slice a6 ll cap6) l HM.out (.inl hui) (hls.small hN))
              have hstep : (stateRes rows l).bind (fun r => ofInit (a.init.drop (k + 1)) r.2 (if init.any (fun y => (r.1 : Int) == y) then init else init ++ [(r.1 : Int)])) = RI := by
                rw [← H2.out, hdr]; rfl
              have HSTEP := Lib.hid hstep
              have HUI := Lib.hid hui
              have HLS := Lib.hid hls
              clear hstep hui hls hdr hlq
              cases hsr : stateRes rows l with
              | none =>
                rw [hsr] at HST
                have hres : ofRes a = none := by
                  rw [HRES.out, ← HSTEP.out, hsr]; rfl
                go_wp2_with (go_at_call 31; refine (HST.out).mono ?_; rintro e w6 ⟨rfl, hK6, hB6⟩)
                exact of_dies (cg := [.int .i64 (fl : Int), .slice ai il ci, .slice none 0 0]) (ce := [.int .i64 0]) rfl rfl (hK6.row bg #[.int .i64 (fl : Int), .slice ai il ci, .slice none 0 0] 25 (by decide) (by decide) HG.out) (hK6.row be #[.int .i64 0] 29 (by decide) (by decide) HE.out) (by omega) (by omega) (HB.out.trans hB6) hok hres
              | some r =>
                obtain ⟨n, rows2⟩ := r
                rw [hsr] at HST
                have hstep2 : ofInit (a.init.drop (k + 1)) rows2 (if init.any (fun y => (n : Int) == y) then init else init ++ [(n : Int)]) = RI := by
                  have := HSTEP.out
                  rw [hsr] at this
                  exact this
                have HSTEP2 := Lib.hid hstep2
                have hn4 : n ≤ 4096 := Nat.le_trans (stateRes_le hsr) HM.out.lens.2
                have hq17 : q ≤ 131072 := by have := hok; unfold altOk at this; simp only [Bool.and_eq_true, decide_eq_true_eq] at this; rw [HQE.out] at this; omega
                have HRN2 := Lib.hid (stateRes_set HRN.out HLS.out hsr)
                clear hstep2
                cases hany : init.any (fun y => (n : Int) == y) with
                | true =>
                  have H2' : Hid (ofInit (a.init.drop (k + 1)) rows2 init = RI) := by
                    have := HSTEP2.out
                    rw [hany, if_pos rfl] at this
                    exact this
                  go_wp2_with (first | (go_at_call 31; refine (HST.out).mono ?_; rintro e w6 ⟨rfl, vr2, rvs2, hM6, hK6, hB6, hor⟩; have HM6 := Lib.hid hM6; have HG6 : Hid (Holds w6 bg 25 [.int .i64 (fl : Int), .slice ai il ci, .slice none 0 0]) := hK6.row bg #[.int .i64 (fl : Int), .slice ai il ci, .slice none 0 0] 25 (by decide) (by decide) HG.out; have HE6 : Hid (Holds w6 be 29 [.int .i64 0]) := hK6.row be #[.int .i64 0] 29 (by decide) (by decide) HE.out; have HF6 := Lib.hid (hK6.owns HF.out (by decide) (by decide)); have HI6 := Lib.hid (hK6.owns HI.out (by decide) (by decide)); have HB6 := Lib.hid (HB.out.trans hB6); have HRR6 : Hid (∀ (i : Nat) (h : i < rows2.length), ∃ u, rvs2[i]? = some u ∧ RowI w.heap.size w6 u rows2[i]) := (fun i hi => by obtain ⟨x, hx1, hx2⟩ := rows_read hsr HM.out.lens.1 hM6.lens.1 hor HRR.out HUI.out i hi; exact ⟨x, hx1, hx2.below hB6⟩); have HCI := Lib.hid (containsInt (n : Int) w6.heap.size (.slice ai il ci) init w6 (by have := HI6.out; rw [← HIL.out] at this ⊢; exact ⟨Row.of_owns this, fun x hx => by have := HIB.out x hx; omega⟩)); have g1 := HG6.out.cell 1; have g1f := HG6.out.free 1; simp only [List.getElem?_cons_zero, List.getElem?_cons_succ] at g1; clear hM6 hK6 hB6 hor) | (go_at_call 32; refine (HCI.out).mono ?_; rintro e w7 ⟨rfl, hw7⟩; rw [hw7, hany]))
                  go_roundw
                  case rel => exact ⟨k + 1, rows2, init, vr2, rvs2, .slice ai il ci, rfl, by omega, by rw [HIL.out]; omega, H2', HRN2, HM6, HRR6, HF6, by rw [HIL.out]; exact HI6, HD, HIB, HG6, HE6, HB6⟩
                  case measure => simp [intOf]; omega
                | false =>
                  have H2' : Hid (ofInit (a.init.drop (k + 1)) rows2 (init ++ [(n : Int)]) = RI) := by
                    have := HSTEP2.out
                    rw [hany, if_neg (by simp)] at this
                    exact this
                  obtain ⟨i0, hi0, hz0, hz1, hz2⟩ := info_parts Tryd.info3i
                  go_wp2_with (first | (go_at_call 31; refine (HST.out).mono ?_; rintro e w6 ⟨rfl, vr2, rvs2, hM6, hK6, hB6, hor⟩; have HM6 := Lib.hid hM6; have HG6 : Hid (Holds w6 bg 25 [.int .i64 (fl : Int), .slice ai il ci, .slice none 0 0]) := hK6.row bg #[.int .i64 (fl : Int), .slice ai il ci, .slice none 0 0] 25 (by decide) (by decide) HG.out; have HE6 : Hid (Holds w6 be 29 [.int .i64 0]) := hK6.row be #[.int .i64 0] 29 (by decide) (by decide) HE.out; have HF6 := Lib.hid (hK6.owns HF.out (by decide) (by decide)); have HI6 := Lib.hid (hK6.owns HI.out (by decide) (by decide)); have HB6 := Lib.hid (HB.out.trans hB6); have HRR6 : Hid (∀ (i : Nat) (h : i < rows2.length), ∃ u, rvs2[i]? = some u ∧ RowI w.heap.size w6 u rows2[i]) := (fun i hi => by obtain ⟨x, hx1, hx2⟩ := rows_read hsr HM.out.lens.1 hM6.lens.1 hor HRR.out HUI.out i hi; exact ⟨x, hx1, hx2.below hB6⟩); have HCI := Lib.hid (containsInt (n : Int) w6.heap.size (.slice ai il ci) init w6 (by have := HI6.out; rw [← HIL.out] at this ⊢; exact ⟨Row.of_owns this, fun x hx => by have := HIB.out x hx; omega⟩)); have g1 := HG6.out.cell 1; have g1f := HG6.out.free 1; simp only [List.getElem?_cons_zero, List.getElem?_cons_succ] at g1; clear hM6 hK6 hB6 hor; have hI7 := HI6.out.alloc (.cells #[.int .i64 (n : Int)] 3)) | (go_at_call 32; refine (HCI.out).mono ?_; rintro e w7 ⟨rfl, hw7⟩; rw [hw7, hany]) | (at_builtin; refine wpList_append_own_at _ rfl (.tmp 72) (.tmp 74) _ rfl w.heap.size 3 i0 _ 1 8 Tryd.underlying22 hi0 hz0 hz1 hz2 rfl (by omega) (.slice ai il ci) il (ints init) rfl hI7 ⟨w6.heap.size, 0, none⟩ 1 1 [.int .i64 (n : Int)] rfl rfl ?c1 ?c2 ?c3 ?c4 ?c5 ?_))
                  case c1 => exact cells_of_new _ _ rfl [.int .i64 (n : Int)] 3
                  case c2 => simp [Value.oneCell']
                  case c3 => unfold maxLen; omega
                  case c4 => omega
                  case c5 => exact Nat.le_trans HB6.out.size (by simp)
                  intro v' w8 hS8 g8 _ hor8
                  have hal : Below w6.heap.size w6 (w6.alloc (.cells #[.int .i64 (n : Int)] 3)) := (Below.refl _ _).alloc (Nat.le_refl _) _
                  have hs7 : w6.heap.size ≤ (w6.alloc (.cells #[.int .i64 (n : Int)] 3)).heap.size := hal.size
                  have hβ6 : w.heap.size ≤ w6.heap.size := HB6.out.size
                  have hF7 := (Fr.of_below hal (fun _ => False)).owns HF6.out (fun _ _ h => h)
                  have hM7 := HM6.out.below hal
                  have hR7 : ∀ (i : Nat) (h : i < rows2.length), ∃ u, rvs2[i]? = some u ∧ RowI w.heap.size (w6.alloc (.cells #[.int .i64 (n : Int)] 3)) u rows2[i] := fun i hi => by
                    obtain ⟨x, hx1, hx2⟩ := HRR6.out i hi
                    exact ⟨x, hx1, hx2.below (hal.mono hβ6)⟩
                  have hM8 := hM7.grownI hR7 hI7 g8
                  have hB8 := (HB6.out.trans (hal.mono hβ6)).grown g8 (Nat.le_trans hβ6 hs7) (fun k e => (hI7.lt k e).1)
                  have hBx : Below w.heap.size (w6.alloc (.cells #[.int .i64 (n : Int)] 3)) w8 := (Below.refl _ _).grown g8 (Nat.le_trans hβ6 hs7) (fun k e => (hI7.lt k e).1)
                  have hG8 := own_kept hI7 g8 (HG6.out.belowAll hal) (by decide)
                  have hE8 := own_kept hI7 g8 (HE6.out.belowAll hal) (by decide)
                  have hF8 := hF7.kept g8 HD.out
                  obtain ⟨i1, hi1⟩ : ∃ i1, il + 1 = i1 := ⟨_, rfl⟩
                  rw [hi1] at hS8
                  obtain ⟨a7, c7, rfl, hc7, hm7⟩ := owns_form hS8
                  have HD9 : Hid ((Value.slice av fl cv).ownBlock = none ∨ (Value.slice av fl cv).ownBlock ≠ (Value.slice a7 i1 c7).ownBlock) := by
                    rcases HD.out with h | h
                    · exact .inl h
                    · rcases hor8 with h8 | h8
                      · right; rw [h8]; exact h
                      · right
                        rw [h8]
                        intro e
                        have := (HF6.out.lt _ e).2
                        omega
                  have hbgw : w.heap.size ≤ bg := by omega
                  have HM9 := Lib.hid (hM8.far (i := 1) (u := .slice a7 i1 c7) hG8 (by decide) (by decide) (by decide) hbgw)
                  have HG9 := Lib.hid (hG8.put 1 (.slice a7 i1 c7))
                  have HE9 := Lib.hid (hE8.far (p := ⟨bg, 1, none⟩) (by show be ≠ bg; omega) (.slice a7 i1 c7))
                  have HF9 := Lib.hid (own_put (i := 1) (u := .slice a7 i1 c7) hF8 hG8 (by decide))
                  have HI9 := Lib.hid (own_put (i := 1) (u := .slice a7 i1 c7) hS8 hG8 (by decide))
                  have HB9 := Lib.hid (hB8.setCell (p := ⟨bg, 1, none⟩) hbgw (.slice a7 i1 c7))
                  have HR9 : Hid (∀ (i : Nat) (h : i < rows2.length), ∃ u, rvs2[i]? = some u ∧ RowI w.heap.size (w8.setCell ⟨bg, 1, none⟩ (.slice a7 i1 c7)) u rows2[i]) := fun i hi => by
                    obtain ⟨x, hx1, hx2⟩ := hR7 i hi
                    exact ⟨x, hx1, hx2.below (hBx.setCell (p := ⟨bg, 1, none⟩) hbgw _)⟩
                  have HIB9 : Hid (∀ m ∈ init ++ [(n : Int)], 0 ≤ m ∧ m ≤ 4096) := fun m hm => by
                    rcases List.mem_append.1 hm with h | h
                    · exact HIB.out m h
                    · rw [List.mem_singleton] at h; omega
                  have t1 := hG8.cell 1
                  have t1f := hG8.free 1
                  simp only [List.getElem?_cons_zero, List.getElem?_cons_succ] at t1
                  have hlen9 : (init ++ [(n : Int)]).length = i1 := by rw [List.length_append, List.length_singleton, HIL.out]; exact hi1
                  clear hal hF7 hM7 hR7 hM8 hB8 hBx hG8 hE8 hF8 hS8 g8 hI7 g1 g1f
                  go_wp2
                  go_roundw
                  case rel => exact ⟨k + 1, rows2, init ++ [(n : Int)], vr2, rvs2, .slice a7 i1 c7, rfl, by omega, by rw [hlen9]; omega, H2', HRN2, HM9, HR9, HF9, by rw [hlen9, show ints (init ++ [(n : Int)]) = ints init ++ [.int .i64 (n : Int)] by simp [ints]]; exact HI9, HD9, HIB9, HG9, HE9, HB9⟩
                  case measure => simp [intOf]; omega
            · have hkq' : decide ((k : Int) < (q : Int)) = false := decide_eq_false (by omega)
              have hres : RI = some (rows, init) := by
                have := H2.out
                rw [List.drop_eq_nil_of_le (by rw [HQE.out]; omega)] at this
                exact this.symm
              subst hres
              obtain ⟨RG, hRG⟩ : ∃ RG, ofGo a.states fin 4097 0 rows 0 [] = RG := ⟨_, rfl⟩
              have HRES2 : Hid (ofRes a = RG.map fun st => ⟨(fl : Int), init, st⟩) := by
                unfold Hid
                rw [HRES.out, ← hRG]; rfl
              have HRG0 : Hid (ofGo a.states fin (4097 - 0) 0 rows 0 [] = RG) := hRG
              have HTO := Lib.hid (altOk_to hok)
              have HFI : Hid (∀ f ∈ fin, 0 ≤ f ∧ f < (a.states.length : Int)) := fun f hf => by
                have := finI_mem a.states 0 f (by rw [HFIN.out]; exact hf)
                omega
              clear hRG H2 HRES
              go_wp2
              go_loopw [11] (fun y wr => ∃ (i mv : Nat) (rows : List (List Int)) (acc : List (List Mv)) (vr : Value) (rvs : List Value) (vst : Value), y = .int .i64 (i : Int) ∧ i ≤ 4096 ∧ mv ≤ 131072 ∧ acc.length = i ∧ Hid (ofGo a.states fin (4097 - i) i rows mv acc = RG) ∧ Hid (∀ x ∈ rows, SetN N x) ∧ Hid (MkM w.heap.size (W1.heap.size + 1) W1.heap.size wr (.slice a1 q cap1) (.slice a2 N cap2) (.slice av fl cv) vr rows rvs mv) ∧ Hid (wr.ownsRow w.heap.size 3 1 (.slice av fl cv) fl (ints fin)) ∧ Hid (wr.ownsRow w.heap.size 3 1 (.slice ai il ci) il (ints init)) ∧ Hid (OwnG w.heap.size wr vst acc) ∧ Hid (Holds wr bg 25 [.int .i64 (fl : Int), .slice ai il ci, vst]) ∧ Hid (Holds wr be 29 [.int .i64 0]) ∧ Hid (Below w.heap.size w wr)) (fun y _ => (5000 - intOf y).toNat)
              case atStart => exact ⟨0, 0, rows, [], vr, rvs, .slice none 0 0, rfl, by omega, by omega, rfl, HRG0, HRN, HM, HF, HI, OwnG.nil _ _, HG, HE, HB⟩
              case round =>
                clear HRG0 HRN HM HF HI HG HE HB HRR HD
                obtain ⟨i, mv, rows, acc, vr, rvs, vst, rfl, hi, hmv, hal, H2, HRN, HM, HF, HI, HS, HG, HE, HB⟩ := hrel
                obtain ⟨W3, rfl⟩ : ∃ W, W = wr := ⟨wr, rfl⟩
                obtain ⟨rl, hrl⟩ : ∃ rl, rows.length = rl := ⟨_, rfl⟩
                obtain ⟨asl, csl, rfl, hcs, hms⟩ := HS.out.form
                rw [hal] at hcs HS HG
                obtain ⟨ar, cr, rfl, hcr, hmr⟩ := owns_form HM.out.row
                have hrow := HM.out.row
                rw [hrl] at HM hcr hrow
                have m4 := HM.out.t.cell 4
                simp only [List.getElem?_cons_zero, List.getElem?_cons_succ] at m4
                by_cases hirl : i < rl
                · have hirl' : (i : Int) < (rl : Int) := by omega
                  obtain ⟨u, hu, hau⟩ := HM.out.each i (by omega)
                  have hlen2 := HM.out.lens
                  obtain ⟨gr, or', rfl, hgr, hcell⟩ := Row.at (Row.of_owns hrow) (by omega)
                  have e0 := hcell i (by omega)
                  rw [hu] at e0
                  have hls := HRN.out _ (List.getElem_mem (l := rows) (n := i) (by omega))
                  have hstep := ofGo_step (sts := a.states) (fin := fin) (mv := mv) (acc := acc) hi (show i < rows.length by omega)
                  have hmem : rows[i]'(by omega) ∈ rows := List.getElem_mem _
                  generalize rows[i]'(by omega) = l at hau hls hstep hmem
                  have hur := hau.read (Nat.le_of_lt (Nat.lt_of_le_of_lt HM.out.bt.1 HM.out.t.lt))
                  obtain ⟨a6, cap6, rfl, _, _⟩ := hur.form
                  obtain ⟨ll, hll⟩ : ∃ ll, l.length = ll := ⟨_, rfl⟩
                  rw [hll] at e0 hau
                  rw [← H2.out] at HRES2
                  rw [hstep] at HRES2 H2
                  have HWY := Lib.hid (waysFn w.heap.size (W1.heap.size + 1) W1.heap.size mv W3 _ _ _ _ a.states fin rows rvs (.slice a6 ll cap6) l HM.out (HY.out.below HB.out) (by rw [HFIN2.out]; exact HF.out) HFI.out (by rw [HFIN2.out]; exact h60) (by rw [HNE.out]; exact hN) HTO.out hau (by rw [HNE.out]; exact hls))
                  have hge : (0 : Int) ≤ (i : Int) := by omega
                  have hrl4 : rl ≤ 4096 := by omega
                  clear hau hur hstep hls hcell hlen2 hrow
                  cases hwr : waysRes a.states fin rows l with
                  | none =>
                    rw [hwr] at HWY
                    have hres : ofRes a = none := by
                      rw [HRES2.out, hwr]; rfl
                    go_wp2_with (go_at_call 33; refine (HWY.out).mono ?_; rintro e w6 ⟨rfl, hK6, hB6⟩)
                    exact of_dies (cg := [.int .i64 (fl : Int), .slice ai il ci, .slice asl i csl]) (ce := [.int .i64 0]) rfl rfl (hK6.row bg #[.int .i64 (fl : Int), .slice ai il ci, .slice asl i csl] 25 (by decide) (by decide) HG.out) (hK6.row be #[.int .i64 0] 29 (by decide) (by decide) HE.out) (by omega) (by omega) (HB.out.trans hB6) hok hres
                  | some r =>
                    obtain ⟨out, rows2⟩ := r
                    rw [hwr] at HWY
                    obtain ⟨ol, hol⟩ : ∃ ol, out.length = ol := ⟨_, rfl⟩
                    have hol4 : ol ≤ 4096 := by rw [← hol]; exact waysRes_len hwr
                    have HRN2 := Lib.hid (waysRes_set (N := N) (by rw [← HNE.out]; exact HTO.out) (HRN.out l hmem) HRN.out hwr)
                    have HOL := Lib.hid hol
                    obtain ⟨mo, hmo⟩ : ∃ mo, mv + ol = mo := ⟨_, rfl⟩
                    have hwr1 : IntKind.i64.wrap ((mv : Int) + (ol : Int)) = (mo : Int) := by
                      rw [wrap_small (by omega) (by omega)]; omega
                    clear hol
                    by_cases hmv2 : mo ≤ 131072
                    · have hmv' : decide ((131072 : Int) < (mo : Int)) = false := decide_eq_false (by omega)
                      have H2' : Hid (ofGo a.states fin (4097 - (i + 1)) (i + 1) rows2 mo (acc ++ [out]) = RG) := by
                        have := H2.out
                        rw [hwr] at this
                        have e : (if mv + out.length ≤ 131072 then ofGo a.states fin (4097 - (i + 1)) (i + 1) rows2 (mv + out.length) (acc ++ [out]) else none) = RG := this
                        rw [HOL.out, hmo, if_pos hmv2] at e
                        exact e
                      obtain ⟨i0, hi0, hz0, hz1, hz2⟩ := info_parts Tryd.info48
                      go_wp2_with (first | (go_at_call 33; refine (HWY.out).mono ?_; rintro e w6 ⟨lv, rfl, hL, hLw, vr2, rvs2, hM6, hK6, hB6⟩; rw [HOL.out] at hL; obtain ⟨al, cl, rfl, hcl, hml⟩ := owns_form hL; have HLW := Lib.hid hLw; have HG6 : Hid (Holds w6 bg 25 [.int .i64 (fl : Int), .slice ai il ci, .slice asl i csl]) := hK6.row bg #[.int .i64 (fl : Int), .slice ai il ci, .slice asl i csl] 25 (by decide) (by decide) HG.out; have HE6 : Hid (Holds w6 be 29 [.int .i64 0]) := hK6.row be #[.int .i64 0] 29 (by decide) (by decide) HE.out; have HF6 := Lib.hid (hK6.owns HF.out (by decide) (by decide)); have HI6 := Lib.hid (hK6.owns HI.out (by decide) (by decide)); have HS6 := Lib.hid (HS.out.kq hK6); have HL6 := Lib.hid (own_mono hL HB.out.size); have HB6 := Lib.hid (HB.out.trans hB6); have HM6 := Lib.hid hM6; have m5 := hM6.t.cell 5; have m5f := hM6.t.free 5; have n5 := (hM6.moves mo).t.cell 5; simp only [List.getElem?_cons_zero, List.getElem?_cons_succ] at m5 n5; have hG7 := HG6.out.far (p := ⟨W1.heap.size + 1, 5, none⟩) (HG6.out.ne_of_type HM6.out.t (by decide)) (.int .i64 (mo : Int)); have HG7 := Lib.hid hG7; have g2 := hG7.cell 2; have g2f := hG7.free 2; simp only [List.getElem?_cons_zero, List.getElem?_cons_succ] at g2; have HS7 := Lib.hid (HS6.out.put (i := 5) (u := .int .i64 (mo : Int)) HM6.out.t (by decide) (by decide)); clear hM6 hK6 hB6 hL hLw hG7; obtain ⟨us, hus, hueach⟩ := HS7.out; have HUE := Lib.hid hueach; have HUS := Lib.hid hus; have hown8 := hus.alloc (.cells #[.slice al ol cl] 48); rw [hal] at hown8; clear hus hueach) | (at_builtin; refine wpList_append_own_at _ rfl (.tmp 113) (.tmp 115) _ rfl w.heap.size 48 i0 _ 1 24 Tryd.underlying23 hi0 hz0 hz1 hz2 rfl (by omega) (.slice asl i csl) i us rfl hown8 ⟨w6.heap.size, 0, none⟩ 1 1 [.slice al ol cl] rfl rfl ?c1 ?c2 ?c3 ?c4 ?c5 ?_))
                      case c1 => exact cells_of_new _ _ (by simp) [.slice al ol cl] 48
                      case c2 => simp [Value.oneCell']
                      case c3 => unfold maxLen; omega
                      case c4 => omega
                      case c5 => exact Nat.le_trans HB6.out.size (by simp)
                      intro v' w9 hS9 g9 _ _
                      have hMt := HM6.out.t
                      have hF7 := own_put (i := 5) (u := .int .i64 (mo : Int)) HF6.out hMt (by decide)
                      have hI7 := own_put (i := 5) (u := .int .i64 (mo : Int)) HI6.out hMt (by decide)
                      have hL7 := own_put (i := 5) (u := .int .i64 (mo : Int)) HL6.out hMt (by decide)
                      have hM7 := HM6.out.moves mo
                      have hE7 := HE6.out.far (p := ⟨W1.heap.size + 1, 5, none⟩) (HE6.out.ne_of_type hMt (by decide)) (.int .i64 (mo : Int))
                      have hB7 := HB6.out.setCell (p := ⟨W1.heap.size + 1, 5, none⟩) HM6.out.bt.1 (.int .i64 (mo : Int))
                      have hal8 : Below (w6.setCell ⟨W1.heap.size + 1, 5, none⟩ (.int .i64 (mo : Int))).heap.size (w6.setCell ⟨W1.heap.size + 1, 5, none⟩ (.int .i64 (mo : Int))) ((w6.setCell ⟨W1.heap.size + 1, 5, none⟩ (.int .i64 (mo : Int))).alloc (.cells #[.slice al ol cl] 48)) := (Below.refl _ _).alloc (Nat.le_refl _) _
                      have hF8 := hF7.alloc (.cells #[.slice al ol cl] 48)
                      have hI8 := hI7.alloc (.cells #[.slice al ol cl] 48)
                      have hL8 := hL7.alloc (.cells #[.slice al ol cl] 48)
                      have hM8 := hM7.below hal8
                      have hG8 := HG7.out.alloc (.cells #[.slice al ol cl] 48)
                      have hE8 := hE7.alloc (.cells #[.slice al ol cl] 48)
                      have hB8 := hB7.trans (hal8.mono hB7.size)
                      have hM9 := hM8.grownE hown8 (by decide) (by decide) (by decide) (Nat.le_refl _) g9
                      have hF9 := hF8.kept g9 (own_pair hF8 hown8 (by decide))
                      have hI9 := hI8.kept g9 (own_pair hI8 hown8 (by decide))
                      have hG9 := own_kept hown8 g9 hG8 (by decide)
                      have hE9 := own_kept hown8 g9 hE8 (by decide)
                      have hB9 := hB8.grown g9 hB8.size (fun k e => (hown8.lt k e).1)
                      have hS9' : OwnG w.heap.size w9 v' (acc ++ [out]) := OwnG.push (w := (w6.setCell ⟨W1.heap.size + 1, 5, none⟩ (.int .i64 (mo : Int))).alloc (.cells #[.slice al ol cl] 48)) (us := us) (by rw [hal]; exact hown8) (fun i hi => by
                        obtain ⟨x, b1, b2, b3⟩ := HUE.out i hi
                        exact ⟨x, b1, b2.alloc _, b3⟩) (by rw [HOL.out]; exact hL8) HLW.out g9 (by rw [hal]; exact hS9)
                      obtain ⟨i1, hi1⟩ : ∃ i1, i + 1 = i1 := ⟨_, rfl⟩
                      rw [hi1] at hS9
                      obtain ⟨a7, c7, rfl, hc7, hm7⟩ := owns_form hS9
                      have hbgw : w.heap.size ≤ bg := by omega
                      have HM10 := Lib.hid (hM9.far (i := 2) (u := .slice a7 i1 c7) hG9 (by decide) (by decide) (by decide) hbgw)
                      have HG10 := Lib.hid (hG9.put 2 (.slice a7 i1 c7))
                      have HE10 := Lib.hid (hE9.far (p := ⟨bg, 2, none⟩) (by show be ≠ bg; omega) (.slice a7 i1 c7))
                      have HF10 := Lib.hid (own_put (i := 2) (u := .slice a7 i1 c7) hF9 hG9 (by decide))
                      have HI10 := Lib.hid (own_put (i := 2) (u := .slice a7 i1 c7) hI9 hG9 (by decide))
                      have HS10 := Lib.hid (hS9'.put (i := 2) (u := .slice a7 i1 c7) hG9 (by decide) (by decide))
                      have HB10 := Lib.hid (hB9.setCell (p := ⟨bg, 2, none⟩) hbgw (.slice a7 i1 c7))
                      have t1 := hG9.cell 2
                      have t1f := hG9.free 2
                      simp only [List.getElem?_cons_zero, List.getElem?_cons_succ] at t1
                      have hlen9 : (acc ++ [out]).length = i1 := by rw [List.length_append, List.length_singleton, hal]; exact hi1
                      rw [hi1] at H2'
                      have hwi : IntKind.i64.wrap ((i : Int) + 1) = (i1 : Int) := by rw [wrap_small (by omega) (by omega)]; omega
                      clear hMt hF7 hI7 hL7 hM7 hE7 hB7 hal8 hF8 hI8 hL8 hM8 hG8 hE8 hB8 hM9 hF9 hI9 hG9 hE9 hB9 hS9' hS9 g9 hown8 g2 g2f
                      go_wp2
                      go_roundw
                      case rel => exact ⟨i1, mo, rows2, acc ++ [out], vr2, rvs2, .slice a7 i1 c7, rfl, by omega, hmv2, hlen9, H2', HRN2, HM10, HF10, HI10, HS10, HG10, HE10, HB10⟩
                      case measure => simp [intOf]; omega
                    · have hmv' : decide ((131072 : Int) < (mo : Int)) = true := decide_eq_true (by omega)
                      have hres : ofRes a = none := by
                        rw [HRES2.out, hwr]
                        show Option.map _ (if mv + out.length ≤ 131072 then _ else none) = none
                        rw [HOL.out, hmo, if_neg hmv2]; rfl
                      go_wp2_with (first | (go_at_call 33; refine (HWY.out).mono ?_; rintro e w6 ⟨lv, rfl, hL, hLw, vr2, rvs2, hM6, hK6, hB6⟩; rw [HOL.out] at hL; obtain ⟨al, cl, rfl, hcl, hml⟩ := owns_form hL; have HLW := Lib.hid hLw; have HG6 : Hid (Holds w6 bg 25 [.int .i64 (fl : Int), .slice ai il ci, .slice asl i csl]) := hK6.row bg #[.int .i64 (fl : Int), .slice ai il ci, .slice asl i csl] 25 (by decide) (by decide) HG.out; have HE6 : Hid (Holds w6 be 29 [.int .i64 0]) := hK6.row be #[.int .i64 0] 29 (by decide) (by decide) HE.out; have HF6 := Lib.hid (hK6.owns HF.out (by decide) (by decide)); have HI6 := Lib.hid (hK6.owns HI.out (by decide) (by decide)); have HS6 := Lib.hid (HS.out.kq hK6); have HL6 := Lib.hid (own_mono hL HB.out.size); have HB6 := Lib.hid (HB.out.trans hB6); have HM6 := Lib.hid hM6; have m5 := hM6.t.cell 5; have m5f := hM6.t.free 5; have n5 := (hM6.moves mo).t.cell 5; simp only [List.getElem?_cons_zero, List.getElem?_cons_succ] at m5 n5; have hG7 := HG6.out.far (p := ⟨W1.heap.size + 1, 5, none⟩) (HG6.out.ne_of_type HM6.out.t (by decide)) (.int .i64 (mo : Int)); have HG7 := Lib.hid hG7; have g2 := hG7.cell 2; have g2f := hG7.free 2; simp only [List.getElem?_cons_zero, List.getElem?_cons_succ] at g2; have HS7 := Lib.hid (HS6.out.put (i := 5) (u := .int .i64 (mo : Int)) HM6.out.t (by decide) (by decide)); clear hM6 hK6 hB6 hL hLw hG7))
                      exact of_dies (cg := [.int .i64 (fl : Int), .slice ai il ci, .slice asl i csl]) (ce := [.int .i64 0]) rfl rfl HG7.out (HE6.out.far (p := ⟨W1.heap.size + 1, 5, none⟩) (HE6.out.ne_of_type HM6.out.t (by decide)) _) (by omega) (by omega) (HB6.out.setCell (p := ⟨W1.heap.size + 1, 5, none⟩) HM6.out.bt.1 _) hok hres
                · have hirl' : decide ((i : Int) < (rl : Int)) = false := decide_eq_false (by omega)
                  have hend := ofGo_end (sts := a.states) (fin := fin) (mv := mv) (acc := acc) hi (show ¬ i < rows.length by omega)
                  have hres : ofRes a = some ⟨(fl : Int), init, acc⟩ := by
                    rw [HRES2.out, ← H2.out, hend]; rfl
                  have HRES3 := Lib.hid hres
                  have HFN := Lib.hid (of_finish (x0 := .int .i64 (fl : Int)) (show bg ≠ be by omega) (show w.heap.size ≤ bg by omega) (show w.heap.size ≤ be by omega) HG.out HE.out HI.out HS.out HB.out)
                  have g0 := HG.out.cell 0
                  have g1 := HG.out.cell 1
                  have g2 := HG.out.cell 2
                  have f0 := HG.out.free 0
                  have f1 := HG.out.free 1
                  have f2 := HG.out.free 2
                  have e0 := HE.out.cell 0
                  have fe := HE.out.free 0
                  simp only [List.getElem?_cons_zero, List.getElem?_cons_succ] at g0 g1 g2 e0
                  clear hend hres
                  have hbgE : ¬ be = bg := by omega
                  have hbgE' : ¬ bg = be := by omega
                  go_wp2
                  have ho : ofOut a = (0, ⟨(fl : Int), init, acc⟩) := by unfold ofOut; rw [if_pos hok, HRES3.out]
                  refine leaves_cons (f := 30) (args := #[.pointer (some ⟨bg, 0, none⟩), .pointer (some ⟨be, 0, none⟩)]) (by simp) (by simp [go_sem]) ?_
                  refine (of1_idle bg be _).mono ?_
                  rintro e u' w'' ⟨rfl, rfl, hw''⟩
                  rw [hw'']
                  refine ⟨_, of_results rfl rfl HFN.out.1 HFN.out.2.1, .agg #[.int .i64 (fl : Int), .slice ai il ci, .slice asl i csl], by rw [ho]; rfl, ?_, HFN.out.2.2.2.2⟩
                  rw [ho]
                  refine ⟨_, _, rfl, ⟨by show -9223372036854775808 ≤ (fl : Int); omega, by show (fl : Int) ≤ 9223372036854775807; omega⟩, ⟨?_, fun m hm => by have := HIB.out m hm; omega⟩, HFN.out.2.2.2.1.read⟩
                  have hI9 := Row.of_owns HFN.out.2.2.1
                  rw [← HIL.out] at hI9 ⊢
                  exact hI9
        · have h60' : decide ((60 : Int) < (fl : Int)) = true := decide_eq_true (by omega)
          have hres : ofRes a = none := by unfold ofRes; rw [HFIN.out, if_neg (by omega)]
          go_wp2
          exact of_dies (cg := [.int .i64 (fl : Int), .slice none 0 0, .slice none 0 0]) (ce := [.int .i64 0]) rfl rfl HG6.out HE6.out (by omega) (by omega) HB6.out hok hres
  · have hcode : altCode a = 110 := if_neg hok
    go_enter_defers Tryd.func16, Tryd.ntmps16
    go_wp2_with (go_at_call 29; refine (HC.out).mono ?_; rintro e W1 ⟨rfl, hb1⟩; rw [hcode]; have hA1 := HA0.out.belowAll hb1; have hG1 := HG0.out.belowAll hb1; have hE1 := HE0.out.belowAll hb1; have g0 := hG1.cell 0; have g1 := hG1.cell 1; have g2 := hG1.cell 2; have e0 := hE1.cell 0; have f0 := hG1.free 0; have f1 := hG1.free 1; have f2 := hG1.free 2; have f3 := hE1.free 0; simp only [List.getElem?_cons_zero, List.getElem?_cons_succ] at g0 g1 g2 e0)
    have hne : w.heap.size + 1 ≠ w.heap.size + 1 + 1 := by omega
    have hG := (((hG1.put 0 (.int .i64 0)).put 1 (.slice none 0 0)).put 2 (.slice none 0 0)).far (p := ⟨w.heap.size + 1 + 1, 0, none⟩) hne (.int .i64 110)
    have hE := (((hE1.far (p := ⟨w.heap.size + 1, 0, none⟩) hne.symm (.int .i64 0)).far (p := ⟨w.heap.size + 1, 1, none⟩) hne.symm (.slice none 0 0)).far (p := ⟨w.heap.size + 1, 2, none⟩) hne.symm (.slice none 0 0)).put 0 (.int .i64 110)
    have ho : ofOut a = (110, nilG) := by unfold ofOut; rw [if_neg hok]
    have hBx := (((((HB0.out.trans (hb1.mono HB0.out.size)).setCell (p := ⟨w.heap.size + 1, 0, none⟩) (by simp) (.int .i64 0)).setCell (p := ⟨w.heap.size + 1, 1, none⟩) (by simp) (.slice none 0 0)).setCell (p := ⟨w.heap.size + 1, 2, none⟩) (by simp) (.slice none 0 0)).setCell (p := ⟨w.heap.size + 1 + 1, 0, none⟩) (by simp; omega) (.int .i64 110))
    exact ⟨_, of_results (bg := w.heap.size + 1) (be := w.heap.size + 1 + 1) rfl rfl hG hE, .agg #[.int .i64 0, .slice none 0 0, .slice none 0 0], by rw [ho]; rfl, by rw [ho]; exact genAt_nil _, hBx⟩
end Go.Proofs.YtelanndleinabaaDoor
