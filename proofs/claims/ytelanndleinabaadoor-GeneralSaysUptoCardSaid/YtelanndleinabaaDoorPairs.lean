/- The walk of Pairs. -/
import Derived.Test.YtelanndleinabaaDoorPairS
import Derived.Deep.CutRange
import Derived.Deep.RegionHeld3
namespace Go.Proofs.YtelanndleinabaaDoor
open Go.RowKit
set_option linter.unusedVariables false

theorem wrap_mul {a b n : Nat} (h : a * b = n) (hn : n < 1000000) : IntKind.i64.wrap ((a : Int) * (b : Int)) = (n : Int) := by
  rw [← Int.natCast_mul, h, wrap_small (by omega) (by omega)]
theorem wrap_add {a b n : Nat} (h : a + b = n) (hn : n < 1000000) : IntKind.i64.wrap ((a : Int) + (b : Int)) = (n : Int) := by
  rw [← Int.natCast_add, h, wrap_small (by omega) (by omega)]
theorem letter_lt {B : Nat} {w : World} {v : Value} {l : Las} (h : LasAt B w v l) (i : Nat) : (l.pre ++ l.loop).getD i 0 < 18446744073709551616 := by
  obtain ⟨a, b, _, ⟨_, h1⟩, ⟨_, h2⟩⟩ := h
  rw [List.getD_eq_getElem?_getD]
  cases hq : (l.pre ++ l.loop)[i]? with
  | none => simp
  | some x =>
    rw [Option.getD_some]
    rcases List.mem_append.1 (List.mem_of_getElem? hq) with h | h
    · exact h1 x h
    · exact h2 x h
set_option maxHeartbeats 4000000 in
set_option maxRecDepth 100000 in
theorem pairsFn (g : Gen) (l : Las) (vg vl : Value) (w : World) (hg : GenAt w.heap.size w vg g) (hl : LasAt w.heap.size w vl l) (hlc : l.pre.length + l.loop.length ≤ 4096) (hn : g.states.length ≤ 4096) (hN : (l.pre.length + l.loop.length) * g.states.length ≤ 600)
    (hto : ∀ ms ∈ g.states, ms.length ≤ 131072 ∧ ∀ m ∈ ms, 0 ≤ m.to ∧ m.to < (g.states.length : Int)) :
    Calls Tryd.prog 22 #[vg, vl] w fun e w' => ∃ vT vZ, e = .returned (.agg #[vT, vZ]) ∧ OwnRR 22 3 w.heap.size w' vT (rowT (stepsOf g l) ((l.pre.length + l.loop.length) * g.states.length)) ∧ OwnRR 26 49 w.heap.size w' vZ (rowZ (stepsOf g l) ((l.pre.length + l.loop.length) * g.states.length)) ∧ Below w.heap.size w w' := by
  have HLAS := Lib.hid hl
  obtain ⟨va, vb, rfl, hs, ha, hbb⟩ := hg
  obtain ⟨a1, cap1, rfl, hc1, hm1⟩ := ha.form
  obtain ⟨a2, cap2, rfl, hc2, hm2⟩ := hbb.form
  obtain ⟨vp, vq, rfl, hp, hq⟩ := hl
  obtain ⟨a3, cap3, rfl, hc3, hm3⟩ := hp.form
  obtain ⟨a4, cap4, rfl, hc4, hm4⟩ := hq.form
  obtain ⟨n, hne⟩ : ∃ n, g.states.length = n := ⟨_, rfl⟩
  obtain ⟨il, hile⟩ : ∃ il, g.init.length = il := ⟨_, rfl⟩
  obtain ⟨p1, hp1⟩ : ∃ p1, l.pre.length = p1 := ⟨_, rfl⟩
  obtain ⟨p2, hp2⟩ : ∃ p2, l.loop.length = p2 := ⟨_, rfl⟩
  obtain ⟨S, hS⟩ : ∃ S, g.sets = S := ⟨_, rfl⟩
  obtain ⟨adj, hadj⟩ : ∃ adj, stepsOf g l = adj := ⟨_, rfl⟩
  have hat : Hid (∀ i s, s < n → adj (i * n + s) = stepsIn n (nextPl p1 (p1 + p2) i) ((l.pre ++ l.loop).getD i 0) (g.states.getD s [])) := fun i s h => by
    rw [← hadj, ← hne, ← hp1, ← hp2]; exact stepsOf_at (by rw [hne]; exact h)
  rw [hp1, hp2, hne] at hN ⊢
  rw [hp1, hp2] at hlc
  rw [hne] at hn hc2
  rw [hp1] at hc3
  rw [hp2] at hc4
  rw [hile] at hc1
  rw [hadj]
  have hto' : Hid (∀ ms ∈ g.states, ms.length ≤ 131072 ∧ ∀ m ∈ ms, 0 ≤ m.to ∧ m.to < (n : Int)) := by rw [← hne]; exact hto
  rw [hS, hile]
  rw [hp1, hp2] at HLAS
  have HST := Lib.hid hbb
  have HNE := Lib.hid hne
  have HP1 := Lib.hid hp1
  have HP2 := Lib.hid hp2
  obtain ⟨sz, hsz⟩ : ∃ sz, p1 + p2 = sz := ⟨_, rfl⟩
  have hwsz : IntKind.i64.wrap ((p1 : Int) + (p2 : Int)) = (sz : Int) := wrap_add hsz (by omega)
  have W0e : ∃ W0, W0 = ((((w.alloc (.cells #[.int .i64 S, .slice a1 il cap1, .slice a2 n cap2] 25)).alloc (.cells #[.slice a3 p1 cap3, .slice a4 p2 cap4] 28)).alloc (.cells #[.slice none 0 0, .slice none 0 0] 59)).alloc (.cells #[.slice none 0 0, .slice none 0 0] 59)) := ⟨_, rfl⟩
  obtain ⟨W0, hW0⟩ := W0e
  have hB0 : Below w.heap.size w W0 := by rw [hW0]; exact ((((Below.refl _ _).alloc (Nat.le_refl _) _).alloc (by simp) _).alloc (by simp; omega) _).alloc (by simp; omega) _
  have hG0 : Holds W0 w.heap.size 25 [.int .i64 S, .slice a1 il cap1, .slice a2 n cap2] := by rw [hW0]; exact (((Holds.new w 25 #[.int .i64 S, .slice a1 il cap1, .slice a2 n cap2]).alloc _).alloc _).alloc _
  have hL0 : Holds W0 (w.heap.size + 1) 28 [.slice a3 p1 cap3, .slice a4 p2 cap4] := by rw [hW0]; exact ((holds_at (k := w.heap.size + 1) (by simp) 28 #[.slice a3 p1 cap3, .slice a4 p2 cap4]).alloc _).alloc _
  have hR0 : Holds W0 (w.heap.size + 1 + 1) 59 [.slice none 0 0, .slice none 0 0] := by rw [hW0]; exact (holds_at (k := w.heap.size + 1 + 1) (by simp) 59 #[.slice none 0 0, .slice none 0 0]).alloc _
  have hO0 : Holds W0 (w.heap.size + 1 + 1 + 1) 59 [.slice none 0 0, .slice none 0 0] := by rw [hW0]; exact holds_at (k := w.heap.size + 1 + 1 + 1) (by simp) 59 #[.slice none 0 0, .slice none 0 0]
  have c2 := hG0.cell 2
  have d0 := hL0.cell 0
  have d1 := hL0.cell 1
  simp only [List.getElem?_cons_zero, List.getElem?_cons_succ] at c2 d0 d1
  rw [hW0] at c2 d0 d1
  have HB0 := Lib.hid hB0
  have HG0 := Lib.hid hG0
  have HL0 := Lib.hid hL0
  have HR0 := Lib.hid hR0
  have HO0 := Lib.hid hO0
  rw [hW0] at HB0 HG0 HL0 HR0 HO0
  rw [hsz] at hlc hN hat ⊢
  have HPR : Hid (PrW w.heap.size (w.heap.size + 1) (w.heap.size + 1 + 1) (w.heap.size + 1 + 1 + 1) [.int .i64 S, .slice a1 il cap1, .slice a2 n cap2] [.slice a3 p1 cap3, .slice a4 p2 cap4] adj w ((((w.alloc (.cells #[.int .i64 S, .slice a1 il cap1, .slice a2 n cap2] 25)).alloc (.cells #[.slice a3 p1 cap3, .slice a4 p2 cap4] 28)).alloc (.cells #[.slice none 0 0, .slice none 0 0] 59)).alloc (.cells #[.slice none 0 0, .slice none 0 0] 59)) (.slice none 0 0) (.slice none 0 0) (0 * n)) :=
    ⟨HG0.out, HL0.out, HR0.out, HO0.out, by rw [Nat.zero_mul]; exact OwnRR.nil _ _ _ _, by rw [Nat.zero_mul]; exact OwnRR.nil _ _ _ _, HB0.out⟩
  clear hB0 hG0 hL0 hR0 hO0 hW0 hs ha hbb hp hq hto hne hile hp1 hp2 hS hadj
  clear W0
  go_enter Tryd.func22, Tryd.ntmps22
  go_wp2
  clear c2 d0 d1 HG0 HL0 HR0 HO0 HB0
  generalize ((((w.alloc (.cells #[.int .i64 S, .slice a1 il cap1, .slice a2 n cap2] 25)).alloc (.cells #[.slice a3 p1 cap3, .slice a4 p2 cap4] 28)).alloc (.cells #[.slice none 0 0, .slice none 0 0] 59)).alloc (.cells #[.slice none 0 0, .slice none 0 0] 59)) = W0 at *
  generalize hbL : w.heap.size + 1 = bL at *
  generalize hbR : bL + 1 = bR at *
  generalize hbO : bR + 1 = bO at *
  go_loopw [8] (fun y wr => ∃ (i : Nat) (vT vZ : Value), y = .int .i64 (i : Int) ∧ i ≤ sz ∧ Hid (PrW w.heap.size bL bR bO [.int .i64 S, .slice a1 il cap1, .slice a2 n cap2] [.slice a3 p1 cap3, .slice a4 p2 cap4] adj w wr vT vZ (i * n))) (fun y _ => (sz + 10 - intOf y).toNat)
  case atStart => exact ⟨0, _, _, rfl, Nat.zero_le _, HPR⟩
  case round =>
    clear HPR
    obtain ⟨i, vT, vZ, rfl, hi, HPR⟩ := hrel
    obtain ⟨W1, rfl⟩ : ∃ W, W = wr := ⟨wr, rfl⟩
    obtain ⟨aT, cT, hvT, hcT, hmT⟩ := HPR.out.t.form
    obtain ⟨aZ, cZ, hvZ, hcZ, hmZ⟩ := HPR.out.z.form
    rw [rowT_len] at hvT hcT
    rw [rowZ_len] at hvZ hcZ
    subst hvT hvZ
    by_cases hin : i < sz
    · have hin' : (i : Int) < (sz : Int) := by omega
      obtain ⟨nx, hnx⟩ : ∃ nx, nextPl p1 sz i = nx := ⟨_, rfl⟩
      obtain ⟨x, hx⟩ : ∃ x, (l.pre ++ l.loop).getD i 0 = x := ⟨_, rfl⟩
      have hxlt : x < 18446744073709551616 := by rw [← hx]; exact letter_lt HLAS.out i
      have HATI : Hid (∀ s, s < n → adj (i * n + s) = stepsIn n nx x (g.states.getD s [])) := fun s h => by rw [hat.out i s h, hnx, hx]
      have HNX := Lib.hid hnx
      have HXL := Lib.hid hx
      have d0 := HPR.out.l.cell 0
      simp only [List.getElem?_cons_zero] at d0
      have hcs : (i + 1 = sz ∧ nx = p1) ∨ (i + 1 ≠ sz ∧ nx = i + 1) := by
        rw [← hnx]
        unfold nextPl
        by_cases h : i + 1 = sz
        · exact .inl ⟨h, if_pos h⟩
        · exact .inr ⟨h, if_neg h⟩
      have hnxs : nx < sz ∨ nx = p1 := by omega
      have hnn : nx * n ≤ 600 := Nat.le_trans (Nat.mul_le_mul_right _ (by omega)) hN
      clear hnx hx
      rcases hcs with ⟨k1, k2⟩ | ⟨k1, k2⟩
      · have hwi : IntKind.i64.wrap ((i : Int) + 1) = (sz : Int) := by rw [wrap_small (by omega) (by omega)]; omega
        rw [← k2] at d0
        clear k1 k2
        go_wp2
        clear hwi d0
        -- INNER1
        go_loopw [10] (fun y wr => ∃ (s : Nat) (vT vZ : Value), y = .int .i64 (s : Int) ∧ s ≤ n ∧ Hid (PrW w.heap.size bL bR bO [.int .i64 S, .slice a1 il cap1, .slice a2 n cap2] [.slice a3 p1 cap3, .slice a4 p2 cap4] adj w wr vT vZ (i * n + s))) (fun y _ => (n + 10 - intOf y).toNat)
        case atStart => exact ⟨0, _, _, rfl, Nat.zero_le _, HPR⟩
        case round =>
          clear HPR
          obtain ⟨s, vT, vZ, rfl, hs, HPR⟩ := hrel
          obtain ⟨W2, rfl⟩ : ∃ W, W = wr := ⟨wr, rfl⟩
          by_cases hsn : s < n
          · have hsn' : (s : Int) < (n : Int) := by omega
            obtain ⟨gs, os, us, rfl, hgs, e0, hus⟩ := (HST.out.below HPR.out.b).at (k := s) (by rw [HNE.out]; exact hsn)
            have hsq : g.states[s]? = some (g.states[s]'(by rw [HNE.out]; exact hsn)) := List.getElem?_eq_getElem _
            have hmem : g.states[s]'(by rw [HNE.out]; exact hsn) ∈ g.states := List.getElem_mem _
            have hstep := HATI.out s hsn
            rw [List.getD_eq_getElem?_getD, hsq, Option.getD_some] at hstep
            obtain ⟨hml, hmt⟩ := hto'.out _ hmem
            generalize g.states[s]'(by rw [HNE.out]; exact hsn) = ms at hus hstep hml hmt
            obtain ⟨a6, cap6, rfl, hc6, hm6⟩ := hus.form
            obtain ⟨ml, hmle⟩ : ∃ ml, ms.length = ml := ⟨_, rfl⟩
            rw [hmle] at e0 hus hc6 hml
            have H3 : Hid ([] ++ stepsIn n nx x (ms.drop 0) = adj (i * n + s)) := hstep.symm
            have HMT := Lib.hid hmt
            have HML := Lib.hid hmle
            have HUS := Lib.hid hus
            have HN1 : Hid (W2.ownsRow W2.heap.size 3 1 (.slice none 0 0) 0 (ints [])) := World.ownsRow_nil _ _ _ _
            have HN2 : Hid (W2.ownsRow W2.heap.size 49 1 (.slice none 0 0) 0 (u64s [])) := World.ownsRow_nil _ _ _ _
            have hgb := HPR.out.b
            have hmne : i * n + s < 1000000 := by
              have : (i + 1) * n ≤ sz * n := Nat.mul_le_mul_right _ (by omega)
              rw [Nat.add_mul] at this
              omega
            clear hstep hmt hmle hus hsq hmem
            go_wp2
            go_loopw [11, 12, 13] (fun u v y wr => ∃ (k : Nat) (D : List (Nat × Nat)), y = .int .i64 (k : Int) ∧ k ≤ ml ∧ D.length ≤ k ∧ Hid (D ++ stepsIn n nx x (ms.drop k) = adj (i * n + s)) ∧ Hid (wr.ownsRow W2.heap.size 3 1 u D.length (ints (D.map fun e => (e.1 : Int)))) ∧ Hid (wr.ownsRow W2.heap.size 49 1 v D.length (u64s (D.map fun e => e.2))) ∧ Hid (Below W2.heap.size W2 wr)) (fun _ _ y _ => (ml + 10 - intOf y).toNat)
            case atStart => exact ⟨0, [], rfl, Nat.zero_le _, Nat.zero_le _, H3, HN1, HN2, Below.refl _ _⟩
            case round =>
              clear H3 HN1 HN2
              obtain ⟨k, D, rfl, hk, hDk, H3, HT, HZ, HBw⟩ := hrel
              obtain ⟨W3, rfl⟩ : ∃ W, W = wr := ⟨wr, rfl⟩
              have hPW := HPR.out.below HBw.out
              have c2 := hPW.g.cell 2
              have e3 : W3.cell? ⟨gs, os + s, none⟩ = some (.slice a6 ml cap6) := (cell_below HBw.out (Nat.lt_of_lt_of_le hgs hgb.size) _).trans e0
              have hos : (0 : Int) ≤ (s : Int) := by omega
              simp only [List.getElem?_cons_zero, List.getElem?_cons_succ] at c2
              by_cases hkm : k < ml
              · have hkm' : (k : Int) < (ml : Int) := by omega
                obtain ⟨g6, o6, rfl, hg6, m0, m1, m2, m3⟩ := (HUS.out.below (hgb.trans (HBw.out.mono hgb.size) |> fun h => (⟨HBw.out.os, HBw.out.tape, HBw.out.output, HBw.out.size, fun k hk => HBw.out.block k (Nat.lt_of_lt_of_le hk hgb.size)⟩ : Below w.heap.size W2 W3))).at (k := k) (by rw [HML.out]; exact hkm)
                have hmq : ms[k]? = some (ms[k]'(by rw [HML.out]; exact hkm)) := List.getElem?_eq_getElem _
                have hdr := drop_at hmq
                have hmw := HUS.out.2 _ (List.mem_of_getElem? hmq)
                obtain ⟨hm0, hm1⟩ := HMT.out _ (List.mem_of_getElem? hmq)
                generalize ms[k]'(by rw [HML.out]; exact hkm) = mv at m0 m1 m2 m3 hmq hdr hmw hm0 hm1
                obtain ⟨my, mn, mt, mz⟩ := mv
                simp only at m0 m1 m2 m3 hmw hm0 hm1
                obtain ⟨mt, rfl⟩ : ∃ t : Nat, mt = (t : Int) := ⟨mt.toNat, by omega⟩
                obtain ⟨hy1, hy2, _, hy3⟩ := hmw
                simp only at hy1 hy2 hy3
                have hal : Below W3.heap.size W3 (W3.alloc (.cells #[.int .u64 (my : Int), .int .u64 (mn : Int), .int .i64 (mt : Int), .int .u64 (mz : Int)] 53)) := (Below.refl _ _).alloc (Nat.le_refl _) _
                have hsk : stepsIn n nx x (ms.drop k) = (if hasB my mn x then (nx * n + mt, mz) :: stepsIn n nx x (ms.drop (k + 1)) else stepsIn n nx x (ms.drop (k + 1))) := by
                  rw [hdr]
                  unfold stepsIn
                  by_cases h : hasB my mn x = true
                  · rw [List.filter_cons_of_pos (by simpa using h), if_pos h]; rfl
                  · rw [List.filter_cons_of_neg (by simpa using h), if_neg h]
                have hH4 := Holds.new W3 53 #[.int .u64 (my : Int), .int .u64 (mn : Int), .int .i64 (mt : Int), .int .u64 (mz : Int)]
                have hPW4 := hPW.below hal
                have hgb4 := hPW4.b
                have hT4 := (Fr.of_below hal (fun _ => False)).owns HT.out (fun _ _ h => h)
                have hZ4 := (Fr.of_below hal (fun _ => False)).owns HZ.out (fun _ _ h => h)
                have hBw4 := HBw.out.trans (hal.mono HBw.out.size)
                have hla : LasAt w.heap.size w (.agg #[.slice a3 p1 cap3, .slice a4 p2 cap4]) l := HLAS.out
                have HSK := Lib.hid hsk
                have HH4 := Lib.hid hH4
                have HPW4 := Lib.hid hPW4
                have HT4 := Lib.hid hT4
                have HZ4 := Lib.hid hZ4
                have HBw4 := Lib.hid hBw4
                clear hsk hH4 hPW4 hT4 hZ4 hBw4 hdr hmq hPW
                go_wp2
                have hs4 : W3.heap.size < (W3.alloc (.cells #[.int .u64 (my : Int), .int .u64 (mn : Int), .int .i64 (mt : Int), .int .u64 (mz : Int)] 53)).heap.size := by simp
                generalize hW4 : W3.alloc (.cells #[.int .u64 (my : Int), .int .u64 (mn : Int), .int .i64 (mt : Int), .int .u64 (mz : Int)] 53) = W4 at *
                obtain ⟨bm, hbm⟩ : ∃ bm, W3.heap.size = bm := ⟨_, rfl⟩
                have HBM := Lib.hid hbm
                rw [hbm] at HH4
                simp only [hbm]
                have hC : Hid (∀ w', Below W4.heap.size W4 w' → (fun w' : World => Below W4.heap.size W4 w' ∧ w'.cell? ⟨bm, 0, none⟩ = some (.int .u64 (my : Int)) ∧ w'.cell? ⟨bm, 1, none⟩ = some (.int .u64 (mn : Int)) ∧ w'.cell? ⟨bL, 0, none⟩ = some (.slice a3 p1 cap3) ∧ w'.cell? ⟨bL, 1, none⟩ = some (.slice a4 p2 cap4)) w') := fun w' h => by
                  have h1 := HH4.out.belowAll h
                  have h2 := HPW4.out.l.belowAll h
                  exact ⟨h, h1.cell 0, h1.cell 1, h2.cell 0, h2.cell 1⟩
                have hCt : Hid (∀ w' w6, (fun w' : World => Below W4.heap.size W4 w' ∧ w'.cell? ⟨bm, 0, none⟩ = some (.int .u64 (my : Int)) ∧ w'.cell? ⟨bm, 1, none⟩ = some (.int .u64 (mn : Int)) ∧ w'.cell? ⟨bL, 0, none⟩ = some (.slice a3 p1 cap3) ∧ w'.cell? ⟨bL, 1, none⟩ = some (.slice a4 p2 cap4)) w' → Below w'.heap.size w' w6 → (fun w' : World => Below W4.heap.size W4 w' ∧ w'.cell? ⟨bm, 0, none⟩ = some (.int .u64 (my : Int)) ∧ w'.cell? ⟨bm, 1, none⟩ = some (.int .u64 (mn : Int)) ∧ w'.cell? ⟨bL, 0, none⟩ = some (.slice a3 p1 cap3) ∧ w'.cell? ⟨bL, 1, none⟩ = some (.slice a4 p2 cap4)) w6) := fun w' w6 h h' => hC.out _ (h.1.trans (h'.mono h.1.size))
                have HLT : Hid (∀ w', Below W4.heap.size W4 w' → Calls Tryd.prog 38 #[.agg #[.slice a3 p1 cap3, .slice a4 p2 cap4], .int .u64 (i : Int)] w' fun e w'' => e = .returned (.int .u64 (x : Int)) ∧ Below w'.heap.size w' w'') := fun w' hw' => by
                  have hb := hgb4.trans (hw'.mono hgb4.size)
                  have := letterFn l (.agg #[.slice a3 p1 cap3, .slice a4 p2 cap4]) i w' ((hla.below hb).mono hb.size) (by rw [HP1.out, HP2.out]; omega) (by rw [HP1.out, HP2.out]; omega)
                  rw [HXL.out] at this
                  exact this
                have hcv : IntKind.u64.wrap (i : Int) = (i : Int) := by simp [IntKind.wrap, IntKind.signed, IntKind.bits]; omega
                clear hbm hW4 m0 m1 m2 m3
                obtain ⟨hb, hhb⟩ : ∃ hb, hasB my mn x = hb := ⟨_, rfl⟩
                go_region_held3 (fun w' : World => Below W4.heap.size W4 w' ∧ w'.cell? ⟨bm, 0, none⟩ = some (.int .u64 (my : Int)) ∧ w'.cell? ⟨bm, 1, none⟩ = some (.int .u64 (mn : Int)) ∧ w'.cell? ⟨bL, 0, none⟩ = some (.slice a3 p1 cap3) ∧ w'.cell? ⟨bL, 1, none⟩ = some (.slice a4 p2 cap4)) (first | exact hC.out _ (Below.refl _ _).drew | exact hS6.out | exact hS7.out) (first
                  | (go_at_call 38; refine (HLT.out _ (And.left (by assumption))).mono ?_; rintro e w6 ⟨rfl, hb6⟩; have hS6 := Lib.hid (hCt.out _ _ (by assumption) hb6); clear hb6)
                  | (go_at_call 37; refine (refHas my mn x hxlt hy1 hy2 w6).mono ?_; rintro e w7 ⟨rfl, hb7⟩; rw [hhb]; have hS7 := Lib.hid (hCt.out _ _ hS6.out hb7); clear hb7))
                all_goals (
                  have hb47 := hS7.out.1
                  have T7 := (Fr.of_below hb47 (fun _ => False)).owns HT4.out (fun _ _ h => h)
                  have Z7 := (Fr.of_below hb47 (fun _ => False)).owns HZ4.out (fun _ _ h => h)
                  have M7 := HH4.out.belowAll hb47
                  have B7 := HBw4.out.trans (hb47.mono HBw4.out.size)
                  clear hb47
                  obtain ⟨dl, hdl⟩ : ∃ dl, D.length = dl := ⟨_, rfl⟩
                  obtain ⟨au, cu, rfl, hcu, hmu⟩ := owns_form T7
                  obtain ⟨az, cz, rfl, hcz, hmz⟩ := owns_form Z7
                  rw [hdl] at T7 Z7 hDk hcu hcz ⊢
                  have HDL := Lib.hid hdl
                  clear hdl
                  cases hb with
                  | false =>
                    have H3' : Hid (D ++ stepsIn n nx x (ms.drop (k + 1)) = adj (i * n + s)) := by
                      have := H3.out
                      rw [HSK.out, hhb] at this
                      exact this
                    have T7' : Hid (w7.ownsRow W2.heap.size 3 1 (.slice au dl cu) D.length (ints (D.map fun e => (e.1 : Int)))) := by rw [HDL.out]; exact T7
                    have Z7' : Hid (w7.ownsRow W2.heap.size 49 1 (.slice az dl cz) D.length (u64s (D.map fun e => e.2))) := by rw [HDL.out]; exact Z7
                    have B7' := Lib.hid B7
                    clear T7 Z7 B7 M7
                    go_wp2
                    have hbm' := HBM.out
                    subst hbm'
                    go_roundw
                    case rel => exact ⟨k + 1, D, rfl, by omega, by rw [HDL.out]; omega, H3', T7', Z7', B7'⟩
                    case measure => simp [intOf]; omega
                  | true =>
                    obtain ⟨q1, hq1⟩ : ∃ q1, nx * n = q1 := ⟨_, rfl⟩
                    obtain ⟨tt, htt⟩ : ∃ tt, q1 + mt = tt := ⟨_, rfl⟩
                    have hw1 : IntKind.i64.wrap ((nx : Int) * (n : Int)) = (q1 : Int) := wrap_mul hq1 (by omega)
                    have hw2 : IntKind.i64.wrap ((q1 : Int) + (mt : Int)) = (tt : Int) := wrap_add htt (by omega)
                    have H3' : Hid ((D ++ [(tt, mz)]) ++ stepsIn n nx x (ms.drop (k + 1)) = adj (i * n + s)) := by
                      have := H3.out
                      rw [HSK.out, hhb, if_pos rfl, hq1, htt] at this
                      rw [List.append_assoc]
                      exact this
                    have m2 := M7.cell 2
                    simp only [List.getElem?_cons_zero, List.getElem?_cons_succ] at m2
                    have hal8 : Below w7.heap.size w7 (w7.alloc (.cells #[.int .i64 (tt : Int)] 3)) := (Below.refl _ _).alloc (Nat.le_refl _) _
                    have T8 := T7.alloc (.cells #[.int .i64 (tt : Int)] 3)
                    have Z8 := Z7.alloc (.cells #[.int .i64 (tt : Int)] 3)
                    have M8 := M7.alloc (.cells #[.int .i64 (tt : Int)] 3)
                    have B8 := B7.trans (hal8.mono B7.size)
                    obtain ⟨i0, hi0, hz0, hz1, hz2⟩ := info_parts Tryd.info3i
                    obtain ⟨i9, hi9, hy90, hy91, hy92⟩ := info_parts Tryd.info49
                    have Z8' := Lib.hid Z8
                    have M8' := Lib.hid M8
                    have B8' := Lib.hid B8
                    clear T7 Z7 M7 B7 hal8 Z8 M8 B8
                    go_wp2_with (at_builtin; refine wpList_append_own_at _ rfl (.tmp 70) (.tmp 77) _ rfl W2.heap.size 3 i0 _ 1 8 Tryd.underlying22 hi0 hz0 hz1 hz2 rfl (by omega) (.slice au dl cu) dl _ rfl T8 ⟨w7.heap.size, 0, none⟩ 1 1 [.int .i64 (tt : Int)] rfl rfl ?c1 ?c2 ?c3 ?c4 ?c5 ?_)
                    case c1 => exact cells_of_new _ _ rfl [.int .i64 (tt : Int)] 3
                    case c2 => simp [Value.oneCell']
                    case c3 => unfold maxLen; omega
                    case c4 => omega
                    case c5 => exact B8'.out.size
                    intro u9 w9 hS9 g9 _ _
                    have Z9 := Z8'.out.kept g9 (own_pair Z8'.out T8 (by decide))
                    have M9 := own_kept T8 g9 M8'.out (by decide)
                    have B9 := B8'.out.grown g9 B8'.out.size (fun k e => (T8.lt k e).1)
                    obtain ⟨d1, hd1⟩ : ∃ d1, dl + 1 = d1 := ⟨_, rfl⟩
                    rw [hd1] at hS9
                    obtain ⟨a9, c9, rfl, hc9, hm9⟩ := owns_form hS9
                    have m3 := M9.cell 3
                    simp only [List.getElem?_cons_zero, List.getElem?_cons_succ] at m3
                    have hal10 : Below w9.heap.size w9 (w9.alloc (.cells #[.int .u64 (mz : Int)] 49)) := (Below.refl _ _).alloc (Nat.le_refl _) _
                    have S10 := Lib.hid (hS9.alloc (.cells #[.int .u64 (mz : Int)] 49))
                    have Z10 := Z9.alloc (.cells #[.int .u64 (mz : Int)] 49)
                    have B10 := Lib.hid (B9.trans (hal10.mono B9.size))
                    clear hS9 g9 Z9 M9 B9 hal10 T8 m2
                    go_wp2_with (at_builtin; refine wpList_append_own_at _ rfl (.tmp 79) (.tmp 82) _ rfl W2.heap.size 49 i9 _ 1 8 Tryd.underlying26 hi9 hy90 hy91 hy92 rfl (by omega) (.slice az dl cz) dl _ rfl Z10 ⟨w9.heap.size, 0, none⟩ 1 1 [.int .u64 (mz : Int)] rfl rfl ?c1 ?c2 ?c3 ?c4 ?c5 ?_)
                    case c1 => exact cells_of_new _ _ rfl [.int .u64 (mz : Int)] 49
                    case c2 => simp [Value.oneCell']
                    case c3 => unfold maxLen; omega
                    case c4 => omega
                    case c5 => exact B10.out.size
                    intro u11 w11 hS11 g11 _ _
                    have T11 := Lib.hid (S10.out.kept g11 (own_pair S10.out Z10 (by decide)))
                    have B11 := Lib.hid (B10.out.grown g11 B10.out.size (fun k e => (Z10.lt k e).1))
                    obtain ⟨a11, c11, rfl, hc11, hm11⟩ := owns_form hS11
                    have hlen : (D ++ [(tt, mz)]).length = d1 := by rw [List.length_append, List.length_singleton, HDL.out]; exact hd1
                    have T11' : Hid (w11.ownsRow W2.heap.size 3 1 (.slice a9 d1 c9) (D ++ [(tt, mz)]).length (ints ((D ++ [(tt, mz)]).map fun e => (e.1 : Int)))) := by
                      rw [hlen]
                      have e : ints ((D ++ [(tt, mz)]).map fun e => (e.1 : Int)) = ints (D.map fun e => (e.1 : Int)) ++ [.int .i64 (tt : Int)] := by simp [ints]
                      rw [e]; exact T11.out
                    have Z11' : Hid (w11.ownsRow W2.heap.size 49 1 (.slice a11 d1 c11) (D ++ [(tt, mz)]).length (u64s ((D ++ [(tt, mz)]).map fun e => e.2))) := by
                      rw [hlen]
                      have e : u64s ((D ++ [(tt, mz)]).map fun e => e.2) = u64s (D.map fun e => e.2) ++ [.int .u64 (mz : Int)] := by simp [u64s]
                      rw [e]; exact hS11
                    clear hS11 g11 Z10 m3
                    go_wp2
                    have hbm' := HBM.out
                    subst hbm'
                    go_roundw
                    case rel => first | exact ⟨k + 1, D ++ [(tt, mz)], rfl, by omega, by rw [hlen]; omega, H3', T11', Z11', B11⟩ | ((repeat apply Exists.intro); exact ⟨⟨k + 1, D ++ [(tt, mz)], rfl, by omega, by rw [hlen]; omega, H3', T11', Z11', B11⟩, rfl⟩)
                    case measure => simp [intOf]; omega)
              · have hkm' : decide ((k : Int) < (ml : Int)) = false := decide_eq_false (by omega)
                have hDe : D = adj (i * n + s) := by
                  have := H3.out
                  rw [List.drop_eq_nil_of_le (by rw [HML.out]; omega)] at this
                  simpa [stepsIn] using this
                subst hDe
                obtain ⟨P, hP⟩ : ∃ P, i * n + s = P := ⟨_, rfl⟩
                rw [hP] at hPW HT HZ hDk hmne
                obtain ⟨dl, hdl⟩ : ∃ dl, (adj P).length = dl := ⟨_, rfl⟩
                obtain ⟨aT, cT, hvT, hcT, hmT⟩ := hPW.t.form
                rw [rowT_len] at hvT hcT
                subst hvT
                obtain ⟨aZ, cZ, hvZ, hcZ, hmZ⟩ := hPW.z.form
                rw [rowZ_len] at hvZ hcZ
                subst hvZ
                obtain ⟨au, cu, rfl, hcu, hmu⟩ := owns_form HT.out
                obtain ⟨az, cz, rfl, hcz, hmz⟩ := owns_form HZ.out
                rw [hdl] at HT HZ hcu hcz hDk ⊢
                have hβ3 : w.heap.size ≤ W3.heap.size := Nat.le_trans hgb.size HBw.out.size
                have hal5 : Below W3.heap.size W3 (W3.alloc (.cells #[.slice au dl cu] 22)) := (Below.refl _ _).alloc (Nat.le_refl _) _
                have hPW5 := hPW.below hal5
                have o0 := hPW.o.cell 0
                have hT5 := own_mono (HT.out.alloc (.cells #[.slice au dl cu] 22)) hgb.size
                have hZ5 := own_mono (HZ.out.alloc (.cells #[.slice au dl cu] 22)) hgb.size
                obtain ⟨usT, kT1, kT2⟩ := hPW5.t
                rw [rowT_len] at kT1
                simp only [List.getElem?_cons_zero] at o0
                have hRO : bR ≠ bO := by omega
                have hβO : w.heap.size ≤ bO := by omega
                have HKT2 := Lib.hid kT2
                have HPW5 := Lib.hid hPW5
                have HP := Lib.hid hP
                have HDL := Lib.hid hdl
                have hwj : IntKind.i64.wrap ((s : Int) + 1) = ((s + 1 : Nat) : Int) := by rw [wrap_small (by omega) (by omega)]; omega
                obtain ⟨i2, hi2, hy0, hy1, hy2⟩ := info_parts Tryd.info22
                obtain ⟨i6, hi6, hx0, hx1, hx2⟩ := info_parts Tryd.info26
                clear hal5 hPW5 kT2 hPW hP hdl
                go_wp2_with (at_builtin; refine wpList_append_own_at _ rfl (.tmp 85) (.tmp 87) _ rfl w.heap.size 22 i2 _ 1 24 Tryd.underlying36 hi2 hy0 hy1 hy2 rfl (by omega) (.slice aT P cT) P usT rfl kT1 ⟨W3.heap.size, 0, none⟩ 1 1 [.slice au dl cu] rfl rfl ?c1 ?c2 ?c3 ?c4 ?c5 ?_)
                case c1 => exact cells_of_new _ _ rfl [.slice au dl cu] 22
                case c2 => simp [Value.oneCell']
                case c3 => unfold maxLen; omega
                case c4 => omega
                case c5 => exact Nat.le_trans hβ3 (by simp)
                intro vT' w6 hS6 g6 _ _
                obtain ⟨r1, r2, r3, r4, r5, r6, r7, r8⟩ := HPW5.out.pushT kT1 HKT2.out (by rw [HDL.out]; exact hT5) g6 hS6 hRO hβO
                have Z6 := hZ5.kept g6 (own_pair hZ5 kT1 (by decide))
                obtain ⟨P1, hP1⟩ : ∃ P1, P + 1 = P1 := ⟨_, rfl⟩
                rw [hP1] at hS6
                obtain ⟨aT', cT', rfl, hcT', hmT'⟩ := owns_form hS6
                have Z7 := own_put (i := 0) (u := .slice aT' P1 cT') Z6 r8 (by decide)
                have t0 := r8.cell 0
                have t0f := r8.free 0
                have o1 := r4.cell 1
                simp only [List.getElem?_cons_zero, List.getElem?_cons_succ] at t0 o1
                have hal8 : Below (w6.setCell ⟨bO, 0, none⟩ (.slice aT' P1 cT')).heap.size (w6.setCell ⟨bO, 0, none⟩ (.slice aT' P1 cT')) ((w6.setCell ⟨bO, 0, none⟩ (.slice aT' P1 cT')).alloc (.cells #[.slice az dl cz] 26)) := (Below.refl _ _).alloc (Nat.le_refl _) _
                have s1 := r1.belowAll hal8
                have s2 := r2.belowAll hal8
                have s3 := r3.belowAll hal8
                have s4 := r4.belowAll hal8
                have s5 := r5.below hal8
                have s6 := r6.below hal8
                have s7 := r7.trans (hal8.mono r7.size)
                have Z8 := Z7.alloc (.cells #[.slice az dl cz] 26)
                obtain ⟨usZ, kZ1, kZ2⟩ := s6
                rw [rowZ_len] at kZ1
                have H1 := Lib.hid s1
                have H2 := Lib.hid s2
                have H3x := Lib.hid s3
                have H4 := Lib.hid s4
                have H5 := Lib.hid s5
                have H7 := Lib.hid s7
                have HKZ2 := Lib.hid kZ2
                clear r1 r2 r3 r4 r5 r6 r7 r8 Z6 Z7 hal8 s1 s2 s3 s4 s5 s7 kZ2 hS6 g6 kT1 hT5 hZ5 o0
                go_wp2_with (at_builtin; refine wpList_append_own_at _ rfl (.tmp 91) (.tmp 93) _ rfl w.heap.size 26 i6 _ 1 24 Tryd.underlying57 hi6 hx0 hx1 hx2 rfl (by omega) (.slice aZ P cZ) P usZ rfl kZ1 ⟨w6.heap.size, 0, none⟩ 1 1 [.slice az dl cz] rfl rfl ?c1 ?c2 ?c3 ?c4 ?c5 ?_)
                case c1 => exact cells_of_new _ _ (by simp) [.slice az dl cz] 26
                case c2 => simp [Value.oneCell']
                case c3 => unfold maxLen; omega
                case c4 => omega
                case c5 => exact H7.out.size
                intro vZ' w9 hS9 g9 _ _
                obtain ⟨hPN, o9⟩ := PrW.pushZ H1.out H2.out H3x.out H4.out H5.out H7.out kZ1 HKZ2.out (by rw [HDL.out]; exact Z8) g9 (by rw [hP1]; exact hS9) hRO hβO
                obtain ⟨aZ', cZ', rfl, hcZ', hmZ'⟩ := owns_form hS9
                have t1 := o9.cell 1
                have t1f := o9.free 1
                simp only [List.getElem?_cons_zero, List.getElem?_cons_succ] at t1
                have HPN : Hid (PrW w.heap.size bL bR bO [.int .i64 S, .slice a1 il cap1, .slice (some ⟨gs, os, none⟩) n cap2] [.slice a3 p1 cap3, .slice a4 p2 cap4] adj w (w9.setCell ⟨bO, 1, none⟩ (.slice aZ' P1 cZ')) (.slice aT' P1 cT') (.slice aZ' P1 cZ') (i * n + (s + 1))) := by
                  rw [← Nat.add_assoc, HP.out]; exact hPN
                clear hPN o9 hS9 g9 kZ1 Z8 H1 H2 H3x H4 H5 H7
                go_wp2
                go_roundw
                case rel => first | exact ⟨s + 1, _, _, rfl, by omega, HPN⟩ | ((repeat apply Exists.intro); exact ⟨⟨s + 1, _, _, rfl, by omega, HPN⟩, rfl⟩)
                case measure => simp [intOf]; omega
          · have hsn' : decide ((s : Int) < (n : Int)) = false := decide_eq_false (by omega)
            have hse : s = n := by omega
            subst hse
            have HPR2 : Hid (PrW w.heap.size bL bR bO [.int .i64 S, .slice a1 il cap1, .slice a2 s cap2] [.slice a3 p1 cap3, .slice a4 p2 cap4] adj w W2 vT vZ ((i + 1) * s)) := by rw [Nat.add_mul, Nat.one_mul]; exact HPR.out
            have hwj : IntKind.i64.wrap ((i : Int) + 1) = ((i + 1 : Nat) : Int) := by rw [wrap_small (by omega) (by omega)]; omega
            go_wp2
            go_roundw
            case rel => exact ⟨i + 1, vT, vZ, rfl, by omega, HPR2⟩
            case measure => simp [intOf]; omega
        -- END1
      · have hwi : IntKind.i64.wrap ((i : Int) + 1) = (nx : Int) := by rw [wrap_small (by omega) (by omega)]; omega
        have heq : ((nx : Int) == (sz : Int)) = false := by simp; omega
        clear k1 k2
        go_wp2
        clear hwi d0 heq
        -- INNER2
        go_loopw [10] (fun y wr => ∃ (s : Nat) (vT vZ : Value), y = .int .i64 (s : Int) ∧ s ≤ n ∧ Hid (PrW w.heap.size bL bR bO [.int .i64 S, .slice a1 il cap1, .slice a2 n cap2] [.slice a3 p1 cap3, .slice a4 p2 cap4] adj w wr vT vZ (i * n + s))) (fun y _ => (n + 10 - intOf y).toNat)
        case atStart => exact ⟨0, _, _, rfl, Nat.zero_le _, HPR⟩
        case round =>
          clear HPR
          obtain ⟨s, vT, vZ, rfl, hs, HPR⟩ := hrel
          obtain ⟨W2, rfl⟩ : ∃ W, W = wr := ⟨wr, rfl⟩
          by_cases hsn : s < n
          · have hsn' : (s : Int) < (n : Int) := by omega
            obtain ⟨gs, os, us, rfl, hgs, e0, hus⟩ := (HST.out.below HPR.out.b).at (k := s) (by rw [HNE.out]; exact hsn)
            have hsq : g.states[s]? = some (g.states[s]'(by rw [HNE.out]; exact hsn)) := List.getElem?_eq_getElem _
            have hmem : g.states[s]'(by rw [HNE.out]; exact hsn) ∈ g.states := List.getElem_mem _
            have hstep := HATI.out s hsn
            rw [List.getD_eq_getElem?_getD, hsq, Option.getD_some] at hstep
            obtain ⟨hml, hmt⟩ := hto'.out _ hmem
            generalize g.states[s]'(by rw [HNE.out]; exact hsn) = ms at hus hstep hml hmt
            obtain ⟨a6, cap6, rfl, hc6, hm6⟩ := hus.form
            obtain ⟨ml, hmle⟩ : ∃ ml, ms.length = ml := ⟨_, rfl⟩
            rw [hmle] at e0 hus hc6 hml
            have H3 : Hid ([] ++ stepsIn n nx x (ms.drop 0) = adj (i * n + s)) := hstep.symm
            have HMT := Lib.hid hmt
            have HML := Lib.hid hmle
            have HUS := Lib.hid hus
            have HN1 : Hid (W2.ownsRow W2.heap.size 3 1 (.slice none 0 0) 0 (ints [])) := World.ownsRow_nil _ _ _ _
            have HN2 : Hid (W2.ownsRow W2.heap.size 49 1 (.slice none 0 0) 0 (u64s [])) := World.ownsRow_nil _ _ _ _
            have hgb := HPR.out.b
            have hmne : i * n + s < 1000000 := by
              have : (i + 1) * n ≤ sz * n := Nat.mul_le_mul_right _ (by omega)
              rw [Nat.add_mul] at this
              omega
            clear hstep hmt hmle hus hsq hmem
            go_wp2
            go_loopw [11, 12, 13] (fun u v y wr => ∃ (k : Nat) (D : List (Nat × Nat)), y = .int .i64 (k : Int) ∧ k ≤ ml ∧ D.length ≤ k ∧ Hid (D ++ stepsIn n nx x (ms.drop k) = adj (i * n + s)) ∧ Hid (wr.ownsRow W2.heap.size 3 1 u D.length (ints (D.map fun e => (e.1 : Int)))) ∧ Hid (wr.ownsRow W2.heap.size 49 1 v D.length (u64s (D.map fun e => e.2))) ∧ Hid (Below W2.heap.size W2 wr)) (fun _ _ y _ => (ml + 10 - intOf y).toNat)
            case atStart => exact ⟨0, [], rfl, Nat.zero_le _, Nat.zero_le _, H3, HN1, HN2, Below.refl _ _⟩
            case round =>
              clear H3 HN1 HN2
              obtain ⟨k, D, rfl, hk, hDk, H3, HT, HZ, HBw⟩ := hrel
              obtain ⟨W3, rfl⟩ : ∃ W, W = wr := ⟨wr, rfl⟩
              have hPW := HPR.out.below HBw.out
              have c2 := hPW.g.cell 2
              have e3 : W3.cell? ⟨gs, os + s, none⟩ = some (.slice a6 ml cap6) := (cell_below HBw.out (Nat.lt_of_lt_of_le hgs hgb.size) _).trans e0
              have hos : (0 : Int) ≤ (s : Int) := by omega
              simp only [List.getElem?_cons_zero, List.getElem?_cons_succ] at c2
              by_cases hkm : k < ml
              · have hkm' : (k : Int) < (ml : Int) := by omega
                obtain ⟨g6, o6, rfl, hg6, m0, m1, m2, m3⟩ := (HUS.out.below (hgb.trans (HBw.out.mono hgb.size) |> fun h => (⟨HBw.out.os, HBw.out.tape, HBw.out.output, HBw.out.size, fun k hk => HBw.out.block k (Nat.lt_of_lt_of_le hk hgb.size)⟩ : Below w.heap.size W2 W3))).at (k := k) (by rw [HML.out]; exact hkm)
                have hmq : ms[k]? = some (ms[k]'(by rw [HML.out]; exact hkm)) := List.getElem?_eq_getElem _
                have hdr := drop_at hmq
                have hmw := HUS.out.2 _ (List.mem_of_getElem? hmq)
                obtain ⟨hm0, hm1⟩ := HMT.out _ (List.mem_of_getElem? hmq)
                generalize ms[k]'(by rw [HML.out]; exact hkm) = mv at m0 m1 m2 m3 hmq hdr hmw hm0 hm1
                obtain ⟨my, mn, mt, mz⟩ := mv
                simp only at m0 m1 m2 m3 hmw hm0 hm1
                obtain ⟨mt, rfl⟩ : ∃ t : Nat, mt = (t : Int) := ⟨mt.toNat, by omega⟩
                obtain ⟨hy1, hy2, _, hy3⟩ := hmw
                simp only at hy1 hy2 hy3
                have hal : Below W3.heap.size W3 (W3.alloc (.cells #[.int .u64 (my : Int), .int .u64 (mn : Int), .int .i64 (mt : Int), .int .u64 (mz : Int)] 53)) := (Below.refl _ _).alloc (Nat.le_refl _) _
                have hsk : stepsIn n nx x (ms.drop k) = (if hasB my mn x then (nx * n + mt, mz) :: stepsIn n nx x (ms.drop (k + 1)) else stepsIn n nx x (ms.drop (k + 1))) := by
                  rw [hdr]
                  unfold stepsIn
                  by_cases h : hasB my mn x = true
                  · rw [List.filter_cons_of_pos (by simpa using h), if_pos h]; rfl
                  · rw [List.filter_cons_of_neg (by simpa using h), if_neg h]
                have hH4 := Holds.new W3 53 #[.int .u64 (my : Int), .int .u64 (mn : Int), .int .i64 (mt : Int), .int .u64 (mz : Int)]
                have hPW4 := hPW.below hal
                have hgb4 := hPW4.b
                have hT4 := (Fr.of_below hal (fun _ => False)).owns HT.out (fun _ _ h => h)
                have hZ4 := (Fr.of_below hal (fun _ => False)).owns HZ.out (fun _ _ h => h)
                have hBw4 := HBw.out.trans (hal.mono HBw.out.size)
                have hla : LasAt w.heap.size w (.agg #[.slice a3 p1 cap3, .slice a4 p2 cap4]) l := HLAS.out
                have HSK := Lib.hid hsk
                have HH4 := Lib.hid hH4
                have HPW4 := Lib.hid hPW4
                have HT4 := Lib.hid hT4
                have HZ4 := Lib.hid hZ4
                have HBw4 := Lib.hid hBw4
                clear hsk hH4 hPW4 hT4 hZ4 hBw4 hdr hmq hPW
                go_wp2
                have hs4 : W3.heap.size < (W3.alloc (.cells #[.int .u64 (my : Int), .int .u64 (mn : Int), .int .i64 (mt : Int), .int .u64 (mz : Int)] 53)).heap.size := by simp
                generalize hW4 : W3.alloc (.cells #[.int .u64 (my : Int), .int .u64 (mn : Int), .int .i64 (mt : Int), .int .u64 (mz : Int)] 53) = W4 at *
                obtain ⟨bm, hbm⟩ : ∃ bm, W3.heap.size = bm := ⟨_, rfl⟩
                have HBM := Lib.hid hbm
                rw [hbm] at HH4
                simp only [hbm]
                have hC : Hid (∀ w', Below W4.heap.size W4 w' → (fun w' : World => Below W4.heap.size W4 w' ∧ w'.cell? ⟨bm, 0, none⟩ = some (.int .u64 (my : Int)) ∧ w'.cell? ⟨bm, 1, none⟩ = some (.int .u64 (mn : Int)) ∧ w'.cell? ⟨bL, 0, none⟩ = some (.slice a3 p1 cap3) ∧ w'.cell? ⟨bL, 1, none⟩ = some (.slice a4 p2 cap4)) w') := fun w' h => by
                  have h1 := HH4.out.belowAll h
                  have h2 := HPW4.out.l.belowAll h
                  exact ⟨h, h1.cell 0, h1.cell 1, h2.cell 0, h2.cell 1⟩
                have hCt : Hid (∀ w' w6, (fun w' : World => Below W4.heap.size W4 w' ∧ w'.cell? ⟨bm, 0, none⟩ = some (.int .u64 (my : Int)) ∧ w'.cell? ⟨bm, 1, none⟩ = some (.int .u64 (mn : Int)) ∧ w'.cell? ⟨bL, 0, none⟩ = some (.slice a3 p1 cap3) ∧ w'.cell? ⟨bL, 1, none⟩ = some (.slice a4 p2 cap4)) w' → Below w'.heap.size w' w6 → (fun w' : World => Below W4.heap.size W4 w' ∧ w'.cell? ⟨bm, 0, none⟩ = some (.int .u64 (my : Int)) ∧ w'.cell? ⟨bm, 1, none⟩ = some (.int .u64 (mn : Int)) ∧ w'.cell? ⟨bL, 0, none⟩ = some (.slice a3 p1 cap3) ∧ w'.cell? ⟨bL, 1, none⟩ = some (.slice a4 p2 cap4)) w6) := fun w' w6 h h' => hC.out _ (h.1.trans (h'.mono h.1.size))
                have HLT : Hid (∀ w', Below W4.heap.size W4 w' → Calls Tryd.prog 38 #[.agg #[.slice a3 p1 cap3, .slice a4 p2 cap4], .int .u64 (i : Int)] w' fun e w'' => e = .returned (.int .u64 (x : Int)) ∧ Below w'.heap.size w' w'') := fun w' hw' => by
                  have hb := hgb4.trans (hw'.mono hgb4.size)
                  have := letterFn l (.agg #[.slice a3 p1 cap3, .slice a4 p2 cap4]) i w' ((hla.below hb).mono hb.size) (by rw [HP1.out, HP2.out]; omega) (by rw [HP1.out, HP2.out]; omega)
                  rw [HXL.out] at this
                  exact this
                have hcv : IntKind.u64.wrap (i : Int) = (i : Int) := by simp [IntKind.wrap, IntKind.signed, IntKind.bits]; omega
                clear hbm hW4 m0 m1 m2 m3
                obtain ⟨hb, hhb⟩ : ∃ hb, hasB my mn x = hb := ⟨_, rfl⟩
                go_region_held3 (fun w' : World => Below W4.heap.size W4 w' ∧ w'.cell? ⟨bm, 0, none⟩ = some (.int .u64 (my : Int)) ∧ w'.cell? ⟨bm, 1, none⟩ = some (.int .u64 (mn : Int)) ∧ w'.cell? ⟨bL, 0, none⟩ = some (.slice a3 p1 cap3) ∧ w'.cell? ⟨bL, 1, none⟩ = some (.slice a4 p2 cap4)) (first | exact hC.out _ (Below.refl _ _).drew | exact hS6.out | exact hS7.out) (first
                  | (go_at_call 38; refine (HLT.out _ (And.left (by assumption))).mono ?_; rintro e w6 ⟨rfl, hb6⟩; have hS6 := Lib.hid (hCt.out _ _ (by assumption) hb6); clear hb6)
                  | (go_at_call 37; refine (refHas my mn x hxlt hy1 hy2 w6).mono ?_; rintro e w7 ⟨rfl, hb7⟩; rw [hhb]; have hS7 := Lib.hid (hCt.out _ _ hS6.out hb7); clear hb7))
                all_goals (
                  have hb47 := hS7.out.1
                  have T7 := (Fr.of_below hb47 (fun _ => False)).owns HT4.out (fun _ _ h => h)
                  have Z7 := (Fr.of_below hb47 (fun _ => False)).owns HZ4.out (fun _ _ h => h)
                  have M7 := HH4.out.belowAll hb47
                  have B7 := HBw4.out.trans (hb47.mono HBw4.out.size)
                  clear hb47
                  obtain ⟨dl, hdl⟩ : ∃ dl, D.length = dl := ⟨_, rfl⟩
                  obtain ⟨au, cu, rfl, hcu, hmu⟩ := owns_form T7
                  obtain ⟨az, cz, rfl, hcz, hmz⟩ := owns_form Z7
                  rw [hdl] at T7 Z7 hDk hcu hcz ⊢
                  have HDL := Lib.hid hdl
                  clear hdl
                  cases hb with
                  | false =>
                    have H3' : Hid (D ++ stepsIn n nx x (ms.drop (k + 1)) = adj (i * n + s)) := by
                      have := H3.out
                      rw [HSK.out, hhb] at this
                      exact this
                    have T7' : Hid (w7.ownsRow W2.heap.size 3 1 (.slice au dl cu) D.length (ints (D.map fun e => (e.1 : Int)))) := by rw [HDL.out]; exact T7
                    have Z7' : Hid (w7.ownsRow W2.heap.size 49 1 (.slice az dl cz) D.length (u64s (D.map fun e => e.2))) := by rw [HDL.out]; exact Z7
                    have B7' := Lib.hid B7
                    clear T7 Z7 B7 M7
                    go_wp2
                    have hbm' := HBM.out
                    subst hbm'
                    go_roundw
                    case rel => exact ⟨k + 1, D, rfl, by omega, by rw [HDL.out]; omega, H3', T7', Z7', B7'⟩
                    case measure => simp [intOf]; omega
                  | true =>
                    obtain ⟨q1, hq1⟩ : ∃ q1, nx * n = q1 := ⟨_, rfl⟩
                    obtain ⟨tt, htt⟩ : ∃ tt, q1 + mt = tt := ⟨_, rfl⟩
                    have hw1 : IntKind.i64.wrap ((nx : Int) * (n : Int)) = (q1 : Int) := wrap_mul hq1 (by omega)
                    have hw2 : IntKind.i64.wrap ((q1 : Int) + (mt : Int)) = (tt : Int) := wrap_add htt (by omega)
                    have H3' : Hid ((D ++ [(tt, mz)]) ++ stepsIn n nx x (ms.drop (k + 1)) = adj (i * n + s)) := by
                      have := H3.out
                      rw [HSK.out, hhb, if_pos rfl, hq1, htt] at this
                      rw [List.append_assoc]
                      exact this
                    have m2 := M7.cell 2
                    simp only [List.getElem?_cons_zero, List.getElem?_cons_succ] at m2
                    have hal8 : Below w7.heap.size w7 (w7.alloc (.cells #[.int .i64 (tt : Int)] 3)) := (Below.refl _ _).alloc (Nat.le_refl _) _
                    have T8 := T7.alloc (.cells #[.int .i64 (tt : Int)] 3)
                    have Z8 := Z7.alloc (.cells #[.int .i64 (tt : Int)] 3)
                    have M8 := M7.alloc (.cells #[.int .i64 (tt : Int)] 3)
                    have B8 := B7.trans (hal8.mono B7.size)
                    obtain ⟨i0, hi0, hz0, hz1, hz2⟩ := info_parts Tryd.info3i
                    obtain ⟨i9, hi9, hy90, hy91, hy92⟩ := info_parts Tryd.info49
                    have Z8' := Lib.hid Z8
                    have M8' := Lib.hid M8
                    have B8' := Lib.hid B8
                    clear T7 Z7 M7 B7 hal8 Z8 M8 B8
                    go_wp2_with (at_builtin; refine wpList_append_own_at _ rfl (.tmp 70) (.tmp 77) _ rfl W2.heap.size 3 i0 _ 1 8 Tryd.underlying22 hi0 hz0 hz1 hz2 rfl (by omega) (.slice au dl cu) dl _ rfl T8 ⟨w7.heap.size, 0, none⟩ 1 1 [.int .i64 (tt : Int)] rfl rfl ?c1 ?c2 ?c3 ?c4 ?c5 ?_)
                    case c1 => exact cells_of_new _ _ rfl [.int .i64 (tt : Int)] 3
                    case c2 => simp [Value.oneCell']
                    case c3 => unfold maxLen; omega
                    case c4 => omega
                    case c5 => exact B8'.out.size
                    intro u9 w9 hS9 g9 _ _
                    have Z9 := Z8'.out.kept g9 (own_pair Z8'.out T8 (by decide))
                    have M9 := own_kept T8 g9 M8'.out (by decide)
                    have B9 := B8'.out.grown g9 B8'.out.size (fun k e => (T8.lt k e).1)
                    obtain ⟨d1, hd1⟩ : ∃ d1, dl + 1 = d1 := ⟨_, rfl⟩
                    rw [hd1] at hS9
                    obtain ⟨a9, c9, rfl, hc9, hm9⟩ := owns_form hS9
                    have m3 := M9.cell 3
                    simp only [List.getElem?_cons_zero, List.getElem?_cons_succ] at m3
                    have hal10 : Below w9.heap.size w9 (w9.alloc (.cells #[.int .u64 (mz : Int)] 49)) := (Below.refl _ _).alloc (Nat.le_refl _) _
                    have S10 := Lib.hid (hS9.alloc (.cells #[.int .u64 (mz : Int)] 49))
                    have Z10 := Z9.alloc (.cells #[.int .u64 (mz : Int)] 49)
                    have B10 := Lib.hid (B9.trans (hal10.mono B9.size))
                    clear hS9 g9 Z9 M9 B9 hal10 T8 m2
                    go_wp2_with (at_builtin; refine wpList_append_own_at _ rfl (.tmp 79) (.tmp 82) _ rfl W2.heap.size 49 i9 _ 1 8 Tryd.underlying26 hi9 hy90 hy91 hy92 rfl (by omega) (.slice az dl cz) dl _ rfl Z10 ⟨w9.heap.size, 0, none⟩ 1 1 [.int .u64 (mz : Int)] rfl rfl ?c1 ?c2 ?c3 ?c4 ?c5 ?_)
                    case c1 => exact cells_of_new _ _ rfl [.int .u64 (mz : Int)] 49
                    case c2 => simp [Value.oneCell']
                    case c3 => unfold maxLen; omega
                    case c4 => omega
                    case c5 => exact B10.out.size
                    intro u11 w11 hS11 g11 _ _
                    have T11 := Lib.hid (S10.out.kept g11 (own_pair S10.out Z10 (by decide)))
                    have B11 := Lib.hid (B10.out.grown g11 B10.out.size (fun k e => (Z10.lt k e).1))
                    obtain ⟨a11, c11, rfl, hc11, hm11⟩ := owns_form hS11
                    have hlen : (D ++ [(tt, mz)]).length = d1 := by rw [List.length_append, List.length_singleton, HDL.out]; exact hd1
                    have T11' : Hid (w11.ownsRow W2.heap.size 3 1 (.slice a9 d1 c9) (D ++ [(tt, mz)]).length (ints ((D ++ [(tt, mz)]).map fun e => (e.1 : Int)))) := by
                      rw [hlen]
                      have e : ints ((D ++ [(tt, mz)]).map fun e => (e.1 : Int)) = ints (D.map fun e => (e.1 : Int)) ++ [.int .i64 (tt : Int)] := by simp [ints]
                      rw [e]; exact T11.out
                    have Z11' : Hid (w11.ownsRow W2.heap.size 49 1 (.slice a11 d1 c11) (D ++ [(tt, mz)]).length (u64s ((D ++ [(tt, mz)]).map fun e => e.2))) := by
                      rw [hlen]
                      have e : u64s ((D ++ [(tt, mz)]).map fun e => e.2) = u64s (D.map fun e => e.2) ++ [.int .u64 (mz : Int)] := by simp [u64s]
                      rw [e]; exact hS11
                    clear hS11 g11 Z10 m3
                    go_wp2
                    have hbm' := HBM.out
                    subst hbm'
                    go_roundw
                    case rel => first | exact ⟨k + 1, D ++ [(tt, mz)], rfl, by omega, by rw [hlen]; omega, H3', T11', Z11', B11⟩ | ((repeat apply Exists.intro); exact ⟨⟨k + 1, D ++ [(tt, mz)], rfl, by omega, by rw [hlen]; omega, H3', T11', Z11', B11⟩, rfl⟩)
                    case measure => simp [intOf]; omega)
              · have hkm' : decide ((k : Int) < (ml : Int)) = false := decide_eq_false (by omega)
                have hDe : D = adj (i * n + s) := by
                  have := H3.out
                  rw [List.drop_eq_nil_of_le (by rw [HML.out]; omega)] at this
                  simpa [stepsIn] using this
                subst hDe
                obtain ⟨P, hP⟩ : ∃ P, i * n + s = P := ⟨_, rfl⟩
                rw [hP] at hPW HT HZ hDk hmne
                obtain ⟨dl, hdl⟩ : ∃ dl, (adj P).length = dl := ⟨_, rfl⟩
                obtain ⟨aT, cT, hvT, hcT, hmT⟩ := hPW.t.form
                rw [rowT_len] at hvT hcT
                subst hvT
                obtain ⟨aZ, cZ, hvZ, hcZ, hmZ⟩ := hPW.z.form
                rw [rowZ_len] at hvZ hcZ
                subst hvZ
                obtain ⟨au, cu, rfl, hcu, hmu⟩ := owns_form HT.out
                obtain ⟨az, cz, rfl, hcz, hmz⟩ := owns_form HZ.out
                rw [hdl] at HT HZ hcu hcz hDk ⊢
                have hβ3 : w.heap.size ≤ W3.heap.size := Nat.le_trans hgb.size HBw.out.size
                have hal5 : Below W3.heap.size W3 (W3.alloc (.cells #[.slice au dl cu] 22)) := (Below.refl _ _).alloc (Nat.le_refl _) _
                have hPW5 := hPW.below hal5
                have o0 := hPW.o.cell 0
                have hT5 := own_mono (HT.out.alloc (.cells #[.slice au dl cu] 22)) hgb.size
                have hZ5 := own_mono (HZ.out.alloc (.cells #[.slice au dl cu] 22)) hgb.size
                obtain ⟨usT, kT1, kT2⟩ := hPW5.t
                rw [rowT_len] at kT1
                simp only [List.getElem?_cons_zero] at o0
                have hRO : bR ≠ bO := by omega
                have hβO : w.heap.size ≤ bO := by omega
                have HKT2 := Lib.hid kT2
                have HPW5 := Lib.hid hPW5
                have HP := Lib.hid hP
                have HDL := Lib.hid hdl
                have hwj : IntKind.i64.wrap ((s : Int) + 1) = ((s + 1 : Nat) : Int) := by rw [wrap_small (by omega) (by omega)]; omega
                obtain ⟨i2, hi2, hy0, hy1, hy2⟩ := info_parts Tryd.info22
                obtain ⟨i6, hi6, hx0, hx1, hx2⟩ := info_parts Tryd.info26
                clear hal5 hPW5 kT2 hPW hP hdl
                go_wp2_with (at_builtin; refine wpList_append_own_at _ rfl (.tmp 85) (.tmp 87) _ rfl w.heap.size 22 i2 _ 1 24 Tryd.underlying36 hi2 hy0 hy1 hy2 rfl (by omega) (.slice aT P cT) P usT rfl kT1 ⟨W3.heap.size, 0, none⟩ 1 1 [.slice au dl cu] rfl rfl ?c1 ?c2 ?c3 ?c4 ?c5 ?_)
                case c1 => exact cells_of_new _ _ rfl [.slice au dl cu] 22
                case c2 => simp [Value.oneCell']
                case c3 => unfold maxLen; omega
                case c4 => omega
                case c5 => exact Nat.le_trans hβ3 (by simp)
                intro vT' w6 hS6 g6 _ _
                obtain ⟨r1, r2, r3, r4, r5, r6, r7, r8⟩ := HPW5.out.pushT kT1 HKT2.out (by rw [HDL.out]; exact hT5) g6 hS6 hRO hβO
                have Z6 := hZ5.kept g6 (own_pair hZ5 kT1 (by decide))
                obtain ⟨P1, hP1⟩ : ∃ P1, P + 1 = P1 := ⟨_, rfl⟩
                rw [hP1] at hS6
                obtain ⟨aT', cT', rfl, hcT', hmT'⟩ := owns_form hS6
                have Z7 := own_put (i := 0) (u := .slice aT' P1 cT') Z6 r8 (by decide)
                have t0 := r8.cell 0
                have t0f := r8.free 0
                have o1 := r4.cell 1
                simp only [List.getElem?_cons_zero, List.getElem?_cons_succ] at t0 o1
                have hal8 : Below (w6.setCell ⟨bO, 0, none⟩ (.slice aT' P1 cT')).heap.size (w6.setCell ⟨bO, 0, none⟩ (.slice aT' P1 cT')) ((w6.setCell ⟨bO, 0, none⟩ (.slice aT' P1 cT')).alloc (.cells #[.slice az dl cz] 26)) := (Below.refl _ _).alloc (Nat.le_refl _) _
                have s1 := r1.belowAll hal8
                have s2 := r2.belowAll hal8
                have s3 := r3.belowAll hal8
                have s4 := r4.belowAll hal8
                have s5 := r5.below hal8
                have s6 := r6.below hal8
                have s7 := r7.trans (hal8.mono r7.size)
                have Z8 := Z7.alloc (.cells #[.slice az dl cz] 26)
                obtain ⟨usZ, kZ1, kZ2⟩ := s6
                rw [rowZ_len] at kZ1
                have H1 := Lib.hid s1
                have H2 := Lib.hid s2
                have H3x := Lib.hid s3
                have H4 := Lib.hid s4
                have H5 := Lib.hid s5
                have H7 := Lib.hid s7
                have HKZ2 := Lib.hid kZ2
                clear r1 r2 r3 r4 r5 r6 r7 r8 Z6 Z7 hal8 s1 s2 s3 s4 s5 s7 kZ2 hS6 g6 kT1 hT5 hZ5 o0
                go_wp2_with (at_builtin; refine wpList_append_own_at _ rfl (.tmp 91) (.tmp 93) _ rfl w.heap.size 26 i6 _ 1 24 Tryd.underlying57 hi6 hx0 hx1 hx2 rfl (by omega) (.slice aZ P cZ) P usZ rfl kZ1 ⟨w6.heap.size, 0, none⟩ 1 1 [.slice az dl cz] rfl rfl ?c1 ?c2 ?c3 ?c4 ?c5 ?_)
                case c1 => exact cells_of_new _ _ (by simp) [.slice az dl cz] 26
                case c2 => simp [Value.oneCell']
                case c3 => unfold maxLen; omega
                case c4 => omega
                case c5 => exact H7.out.size
                intro vZ' w9 hS9 g9 _ _
                obtain ⟨hPN, o9⟩ := PrW.pushZ H1.out H2.out H3x.out H4.out H5.out H7.out kZ1 HKZ2.out (by rw [HDL.out]; exact Z8) g9 (by rw [hP1]; exact hS9) hRO hβO
                obtain ⟨aZ', cZ', rfl, hcZ', hmZ'⟩ := owns_form hS9
                have t1 := o9.cell 1
                have t1f := o9.free 1
                simp only [List.getElem?_cons_zero, List.getElem?_cons_succ] at t1
                have HPN : Hid (PrW w.heap.size bL bR bO [.int .i64 S, .slice a1 il cap1, .slice (some ⟨gs, os, none⟩) n cap2] [.slice a3 p1 cap3, .slice a4 p2 cap4] adj w (w9.setCell ⟨bO, 1, none⟩ (.slice aZ' P1 cZ')) (.slice aT' P1 cT') (.slice aZ' P1 cZ') (i * n + (s + 1))) := by
                  rw [← Nat.add_assoc, HP.out]; exact hPN
                clear hPN o9 hS9 g9 kZ1 Z8 H1 H2 H3x H4 H5 H7
                go_wp2
                go_roundw
                case rel => first | exact ⟨s + 1, _, _, rfl, by omega, HPN⟩ | ((repeat apply Exists.intro); exact ⟨⟨s + 1, _, _, rfl, by omega, HPN⟩, rfl⟩)
                case measure => simp [intOf]; omega
          · have hsn' : decide ((s : Int) < (n : Int)) = false := decide_eq_false (by omega)
            have hse : s = n := by omega
            subst hse
            have HPR2 : Hid (PrW w.heap.size bL bR bO [.int .i64 S, .slice a1 il cap1, .slice a2 s cap2] [.slice a3 p1 cap3, .slice a4 p2 cap4] adj w W2 vT vZ ((i + 1) * s)) := by rw [Nat.add_mul, Nat.one_mul]; exact HPR.out
            have hwj : IntKind.i64.wrap ((i : Int) + 1) = ((i + 1 : Nat) : Int) := by rw [wrap_small (by omega) (by omega)]; omega
            go_wp2
            go_roundw
            case rel => exact ⟨i + 1, vT, vZ, rfl, by omega, HPR2⟩
            case measure => simp [intOf]; omega
        -- END2
    · have hin' : decide ((i : Int) < (sz : Int)) = false := decide_eq_false (by omega)
      have e0 := HPR.out.o.cell 0
      have e1 := HPR.out.o.cell 1
      have f0 := HPR.out.r.cell 0
      have f1 := HPR.out.r.cell 1
      have ff0 := HPR.out.r.free 0
      have ff1 := HPR.out.r.free 1
      simp only [List.getElem?_cons_zero, List.getElem?_cons_succ] at e0 e1 f0 f1
      have hie : i = sz := by omega
      subst hie
      have hfin := HPR.out
      have y0 := ((hfin.r.put 0 (.slice aT (i * n) cT)).put 1 (.slice aZ (i * n) cZ)).cell 0
      have y1 := ((hfin.r.put 0 (.slice aT (i * n) cT)).put 1 (.slice aZ (i * n) cZ)).cell 1
      simp only [List.set_cons_zero, List.set_cons_succ, List.getElem?_cons_zero, List.getElem?_cons_succ] at y0 y1
      have hT9 := (hfin.t.put (i := 0) (u := .slice aT (i * n) cT) hfin.r (by decide) (by decide)).put (i := 1) (u := .slice aZ (i * n) cZ) (hfin.r.put 0 _) (by decide) (by decide)
      have hZ9 := (hfin.z.put (i := 0) (u := .slice aT (i * n) cT) hfin.r (by decide) (by decide)).put (i := 1) (u := .slice aZ (i * n) cZ) (hfin.r.put 0 _) (by decide) (by decide)
      have hB9 := (hfin.b.setCell (p := ⟨bR, 0, none⟩) (by show w.heap.size ≤ bR; omega) (.slice aT (i * n) cT)).setCell (p := ⟨bR, 1, none⟩) (by show w.heap.size ≤ bR; omega) (.slice aZ (i * n) cZ)
      have HT9 := Lib.hid hT9
      have HZ9 := Lib.hid hZ9
      have HB9 := Lib.hid hB9
      clear hfin hT9 hZ9 hB9
      go_wp2
      exact bodyPost_ret (v := .agg #[.slice aT (i * n) cT, .slice aZ (i * n) cZ]) (by simp [results, Tryd.results22, go_sem, y0, y1]) rfl ⟨_, _, rfl, HT9.out, HZ9.out, HB9.out⟩
end Go.Proofs.YtelanndleinabaaDoor
