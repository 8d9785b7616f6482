/- The walk of alternate.Check. -/
import Derived.Test.YtelanndleinabaaDoorASet
namespace Go.Proofs.YtelanndleinabaaDoor
open Go.RowKit
set_option linter.unusedVariables false

abbrev ASt := Bool × List AMv
structure Alt where
  init : List (List Int)
  states : List ASt
abbrev SP := ASt × Value
def spCells (s : SP) : List Value := [.bool s.1.1, s.2]
def sps (l : List SP) : List Value := l.flatMap spCells
theorem sps_at : ∀ (ms : List SP) (i : Nat) (h : i < ms.length), (sps ms)[i * 2]? = some (.bool ms[i].1.1) ∧ (sps ms)[i * 2 + 1]? = some ms[i].2
  | t :: ts, 0, _ => by simp [sps, spCells]
  | t :: ts, i + 1, h => by
    have hi := sps_at ts i (by simpa using h)
    have e : sps (t :: ts) = spCells t ++ sps ts := by simp [sps]
    have hl : (spCells t).length = 2 := rfl
    rw [e]
    rw [List.getElem?_append_right (by rw [hl]; omega), List.getElem?_append_right (by rw [hl]; omega), hl]
    simp only [show (i + 1) * 2 - 2 = i * 2 by omega, show (i + 1) * 2 + 1 - 2 = i * 2 + 1 by omega, List.getElem_cons_succ]
    exact hi
def RowA (B : Nat) (w : World) (v : Value) (ms : List AMv) : Prop := ∃ ps : List AP, ps.map Prod.fst = ms ∧ RowP B w v ps ∧ ∀ p ∈ ps, RowI B w p.2 p.1.to ∧ p.1.yes < 18446744073709551616 ∧ p.1.no < 18446744073709551616
def RowII (B : Nat) (w : World) (v : Value) (ls : List (List Int)) : Prop := ∃ hs : List Value, Row B w 1 v ls.length hs ∧ ∀ (i : Nat) (h : i < ls.length), ∃ u, hs[i]? = some u ∧ RowI B w u ls[i]
def RowS (B : Nat) (w : World) (v : Value) (ss : List ASt) : Prop := ∃ l : List SP, l.map Prod.fst = ss ∧ Row B w 2 v l.length (sps l) ∧ ∀ s ∈ l, RowA B w s.2 s.1.2
def AltAt (B : Nat) (w : World) (v : Value) (a : Alt) : Prop := ∃ x y, v = .agg #[x, y] ∧ RowII B w x a.init ∧ RowS B w y a.states
section
variable {B B' : Nat} {w w' : World} {v : Value}
theorem RowA.below {ms : List AMv} (h : RowA B w v ms) (hb : Below B w w') : RowA B w' v ms := by
  obtain ⟨ps, h1, h2, h3⟩ := h
  exact ⟨ps, h1, h2.below hb, fun p hp => ⟨(h3 p hp).1.below hb, (h3 p hp).2⟩⟩
theorem RowA.mono {ms : List AMv} (h : RowA B w v ms) (hb : B ≤ B') : RowA B' w v ms := by
  obtain ⟨ps, h1, h2, h3⟩ := h
  exact ⟨ps, h1, h2.mono hb, fun p hp => ⟨(h3 p hp).1.mono hb, (h3 p hp).2⟩⟩
theorem RowII.below {ls : List (List Int)} (h : RowII B w v ls) (hb : Below B w w') : RowII B w' v ls := by
  obtain ⟨hs, h1, h2⟩ := h
  exact ⟨hs, h1.below hb, fun i hi => let ⟨u, hu, hm⟩ := h2 i hi; ⟨u, hu, hm.below hb⟩⟩
theorem RowII.mono {ls : List (List Int)} (h : RowII B w v ls) (hb : B ≤ B') : RowII B' w v ls := by
  obtain ⟨hs, h1, h2⟩ := h
  exact ⟨hs, h1.mono hb, fun i hi => let ⟨u, hu, hm⟩ := h2 i hi; ⟨u, hu, hm.mono hb⟩⟩
theorem RowS.below {ss : List ASt} (h : RowS B w v ss) (hb : Below B w w') : RowS B w' v ss := by
  obtain ⟨l, h1, h2, h3⟩ := h
  exact ⟨l, h1, h2.below hb, fun s hs => (h3 s hs).below hb⟩
theorem RowS.mono {ss : List ASt} (h : RowS B w v ss) (hb : B ≤ B') : RowS B' w v ss := by
  obtain ⟨l, h1, h2, h3⟩ := h
  exact ⟨l, h1, h2.mono hb, fun s hs => (h3 s hs).mono hb⟩
theorem AltAt.below {a : Alt} (h : AltAt B w v a) (hb : Below B w w') : AltAt B w' v a := by
  obtain ⟨x, y, hv, h1, h2⟩ := h
  exact ⟨x, y, hv, h1.below hb, h2.below hb⟩
theorem AltAt.mono {a : Alt} (h : AltAt B w v a) (hb : B ≤ B') : AltAt B' w v a := by
  obtain ⟨x, y, hv, h1, h2⟩ := h
  exact ⟨x, y, hv, h1.mono hb, h2.mono hb⟩
theorem RowA.form {ms : List AMv} (h : RowA B w v ms) : ∃ a cap, v = .slice a ms.length cap ∧ ms.length ≤ cap ∧ cap ≤ 9223372036854775807 := by
  obtain ⟨ps, h1, h2, _⟩ := h
  rw [← h1, List.length_map]; exact h2.form
theorem RowII.form {ls : List (List Int)} (h : RowII B w v ls) : ∃ a cap, v = .slice a ls.length cap ∧ ls.length ≤ cap ∧ cap ≤ 9223372036854775807 := by
  obtain ⟨hs, h1, _⟩ := h
  exact h1.form
theorem RowS.form {ss : List ASt} (h : RowS B w v ss) : ∃ a cap, v = .slice a ss.length cap ∧ ss.length ≤ cap ∧ cap ≤ 9223372036854775807 := by
  obtain ⟨l, h1, h2, _⟩ := h
  rw [← h1, List.length_map]; exact h2.form
theorem RowII.at {ls : List (List Int)} {a : Option Addr} {m cap : Nat} (h : RowII B w (.slice a m cap) ls) {k : Nat} (hk : k < ls.length) : ∃ g o u, a = some ⟨g, o, none⟩ ∧ g < B ∧ w.cell? ⟨g, o + k, none⟩ = some u ∧ RowI B w u ls[k] := by
  obtain ⟨hs, h1, h2⟩ := h
  obtain ⟨g, o, ha, hg, hc⟩ := h1.at (by omega)
  obtain ⟨u, hu, hm⟩ := h2 k hk
  exact ⟨g, o, u, ha, hg, by rw [hc k (by omega)]; exact hu, hm⟩
theorem RowS.at {ss : List ASt} {a : Option Addr} {m cap : Nat} (h : RowS B w (.slice a m cap) ss) {k : Nat} (hk : k < ss.length) : ∃ g o u, a = some ⟨g, o, none⟩ ∧ g < B ∧ w.cell? ⟨g, o + k * 2, none⟩ = some (.bool ss[k].1) ∧ w.cell? ⟨g, o + k * 2 + 1, none⟩ = some u ∧ RowA B w u ss[k].2 := by
  obtain ⟨l, rfl, h2, h3⟩ := h
  rw [List.length_map] at hk
  obtain ⟨g, o, ha, hg, hc⟩ := h2.at (by omega)
  obtain ⟨f0, f1⟩ := sps_at l k hk
  refine ⟨g, o, l[k].2, ha, hg, ?_, ?_, ?_⟩
  · rw [hc (k * 2) (by omega), f0]; simp
  · rw [Nat.add_assoc, hc (k * 2 + 1) (by omega), f1]
  · have := h3 l[k] (List.getElem_mem hk)
    simpa using this
theorem RowA.at {ms : List AMv} {a : Option Addr} {m cap : Nat} (h : RowA B w (.slice a m cap) ms) {k : Nat} (hk : k < ms.length) : ∃ g o u, a = some ⟨g, o, none⟩ ∧ g < B ∧ w.cell? ⟨g, o + k * 3, none⟩ = some (.int .u64 (ms[k].yes : Int)) ∧ w.cell? ⟨g, o + k * 3 + 1, none⟩ = some (.int .u64 (ms[k].no : Int)) ∧ w.cell? ⟨g, o + k * 3 + 2, none⟩ = some u ∧
    RowI B w u ms[k].to ∧ ms[k].yes < 18446744073709551616 ∧ ms[k].no < 18446744073709551616 := by
  obtain ⟨ps, rfl, h2, h3⟩ := h
  rw [List.length_map] at hk
  obtain ⟨g, o, ha, hg, f0, f1, f2⟩ := h2.at hk
  refine ⟨g, o, ps[k].2, ha, hg, ?_, ?_, f2, ?_⟩
  · rw [f0]; simp
  · rw [f1]; simp
  · have := h3 ps[k] (List.getElem_mem hk)
    simpa using this
end

def stOk (i : Nat) (m : AMv) : Bool := (m.yes &&& m.no == 0) && setL m.to (i : Int)
def stsOk : Nat → List ASt → Bool
  | _, [] => true
  | i, s :: r => s.2.all (stOk i) && stsOk (i + 1) r
def movesN (ss : List ASt) : Nat := (ss.map fun s => s.2.length).sum
/-- May an alternating automaton be? -/
def altOk (a : Alt) : Bool := decide (a.states.length ≤ 4096 ∧ a.init.length ≤ 131072) && a.init.all (fun l => setL l ((a.states.length : Int) - 1)) && stsOk 0 a.states && decide (movesN a.states ≤ 131072)
def altCode (a : Alt) : Nat := if altOk a then 0 else 110
theorem movesN_take (l : List ASt) (k : Nat) : movesN (l.take k) ≤ movesN l := by
  unfold movesN
  have : l = l.take k ++ l.drop k := (List.take_append_drop k l).symm
  conv => rhs; rw [this]
  rw [List.map_append, List.sum_append]
  omega

set_option maxHeartbeats 4000000 in
set_option maxRecDepth 100000 in
theorem altCheck (a : Alt) (v : Value) (w : World) (hA : AltAt w.heap.size w v a) (hb : movesN a.states ≤ 4000000) (hb2 : a.states.length ≤ 4000000) :
    Calls Tryd.prog 29 #[v] w fun e w' => e = .returned (.int .i64 (altCode a : Nat)) ∧ Below w.heap.size w w' := by
  obtain ⟨x, y, rfl, hx, hy⟩ := hA
  obtain ⟨a1, cap1, rfl, hc1, hm1⟩ := hx.form
  obtain ⟨a2, cap2, rfl, hc2, hm2⟩ := hy.form
  obtain ⟨n, hn⟩ : ∃ n, a.states.length = n := ⟨_, rfl⟩
  obtain ⟨q, hq⟩ : ∃ q, a.init.length = q := ⟨_, rfl⟩
  obtain ⟨C, hC⟩ : ∃ C, altCode a = C := ⟨_, rfl⟩
  rw [hn] at hc2 hb2 ⊢
  rw [hq] at hc1 ⊢
  rw [hC]
  have hok : altOk a = (decide (n ≤ 4096 ∧ q ≤ 131072) && a.init.all (fun l => setL l ((n : Int) - 1)) && stsOk 0 a.states && decide (movesN a.states ≤ 131072)) := by unfold altOk; rw [hn, hq]
  have hbadC : altOk a = false → C = 110 := fun h => by rw [← hC]; unfold altCode; rw [h]; rfl
  have hokC : altOk a = true → C = 0 := fun h => by rw [← hC]; unfold altCode; rw [if_pos h]
  rw [hn] at hy
  rw [hq] at hx
  have HN := Lib.hid hn
  have HQ := Lib.hid hq
  have HOK := Lib.hid hok
  have HBAD := Lib.hid hbadC
  have HGOOD := Lib.hid hokC
  have HB := Lib.hid hb
  have HX := Lib.hid hx
  have HY := Lib.hid hy
  clear hn hq hok hbadC hokC hC hb hx hy
  have hB0 : Below w.heap.size w (w.alloc (.cells #[.slice a1 q cap1, .slice a2 n cap2] 39)) := (Below.refl _ _).alloc (Nat.le_refl _) _
  have hG0 := Holds.new w 39 #[.slice a1 q cap1, .slice a2 n cap2]
  by_cases hp1 : (4096 : Int) < (n : Int)
  · have hC : C = 110 := HBAD.out (by rw [HOK.out, decide_eq_false (by omega)]; rfl)
    subst hC
    clear HBAD HGOOD
    go_enter Tryd.func29, Tryd.ntmps29
    go_wp2
    go_ret
    exact ⟨rfl, hB0⟩
  · have hp1' : decide ((4096 : Int) < (n : Int)) = false := decide_eq_false hp1
    by_cases hp2 : (131072 : Int) < (q : Int)
    · have hC : C = 110 := HBAD.out (by rw [HOK.out, decide_eq_false (by omega)]; rfl)
      subst hC
      clear HBAD HGOOD hp1
      go_enter Tryd.func29, Tryd.ntmps29
      go_wp2
      go_ret
      exact ⟨rfl, hB0⟩
    · have hp2' : decide ((131072 : Int) < (q : Int)) = false := decide_eq_false hp2
      have HOK' : Hid (altOk a = (a.init.all (fun l => setL l ((n : Int) - 1)) && stsOk 0 a.states && decide (movesN a.states ≤ 131072))) := by
        show _ = _
        rw [HOK.out, decide_eq_true (by omega), Bool.true_and]
      have hn4 : n ≤ 4096 := by omega
      have hq4 : q ≤ 131072 := by omega
      clear HOK hp1 hp2
      go_enter Tryd.func29, Tryd.ntmps29
      go_wp2
      generalize w.alloc (.cells #[.slice a1 q cap1, .slice a2 n cap2] 39) = W at *
      go_loopw [23] (fun x wr => ∃ k : Nat, x = .int .i64 (k : Int) ∧ k ≤ q ∧ Hid (∀ l ∈ a.init.take k, setL l ((n : Int) - 1) = true) ∧ wr = W) (fun x _ => (q + 10 - intOf x).toNat)
      case atStart => exact ⟨0, rfl, Nat.zero_le _, (fun l hl => by simp at hl), rfl⟩
      case round =>
        obtain ⟨k, rfl, hk, HK, rfl⟩ := hrel
        have x0 := hG0.cell 0
        have x1 := hG0.cell 1
        simp only [List.getElem?_cons_zero, List.getElem?_cons_succ] at x0 x1
        by_cases hl : k < q
        · have hl' : (k : Int) < (q : Int) := by omega
          obtain ⟨ys, hyq⟩ : ∃ y, a.init[k]? = some y := ⟨_, List.getElem?_eq_getElem (by rw [HQ.out]; exact hl)⟩
          obtain ⟨gb, o, u, rfl, hgb, hcell, hu⟩ := (HX.out.below hB0).at (k := k) (by rw [HQ.out]; exact hl)
          rw [(List.getElem?_eq_some_iff.1 hyq).2] at hu
          have hta := take_at hyq
          have hset := setFn ((n : Int) - 1) u ys wr (hu.mono hB0.size) (by omega)
          have HS := Lib.hid hset
          obtain ⟨a3, cap3, rfl, _, _⟩ := hu.form
          have hbadK : setL ys ((n : Int) - 1) = false → C = 110 := fun h => HBAD.out (by
            have : a.init.all (fun l => setL l ((n : Int) - 1)) = false := by
              cases hh : a.init.all (fun l => setL l ((n : Int) - 1)) with
              | false => rfl
              | true => rw [List.all_eq_true.1 hh ys (List.mem_of_getElem? hyq)] at h; cases h
            rw [HOK'.out, this]; rfl)
          have hgoodK : setL ys ((n : Int) - 1) = true → ∀ l ∈ a.init.take (k + 1), setL l ((n : Int) - 1) = true := fun h l hl => by
            rw [hta] at hl
            rcases List.mem_append.1 hl with hl | hl
            · exact HK.out l hl
            · rw [List.mem_singleton.1 hl]; exact h
          have HBK := Lib.hid hbadK
          have HGK := Lib.hid hgoodK
          clear hbadK hgoodK hset hta hyq hu
          generalize setL ys ((n : Int) - 1) = b at HS HBK HGK
          go_wp2_with (fail)
          refine (HS.out).mono ?_
          rintro e wr ⟨rfl, rfl⟩
          cases b with
          | true =>
            have HK' : Hid (∀ l ∈ a.init.take (k + 1), setL l ((n : Int) - 1) = true) := HGK.out rfl
            go_wp2
            exact ⟨⟨k + 1, rfl, by omega, HK', trivial⟩, by simp [intOf]; omega⟩
          | false =>
            have hC : C = 110 := HBK.out rfl
            subst hC
            clear HBAD HGOOD HBK HGK
            go_wp2
            go_ret
            exact ⟨rfl, hB0⟩
        · have hl' : decide ((k : Int) < (q : Int)) = false := decide_eq_false (by omega)
          have HIA : Hid (a.init.all (fun l => setL l ((n : Int) - 1)) = true) := by
            show _ = _
            rw [List.all_eq_true]
            intro l hl
            exact HK.out l (by rw [List.take_of_length_le (by rw [HQ.out]; omega)]; exact hl)
          clear HK
          go_wp2
          clear x0 x1 hG0
          go_loopw [5, 38] (fun m x wr2 => ∃ (k M : Nat), x = .int .i64 (k : Int) ∧ m = .int .i64 (M : Int) ∧ k ≤ n ∧ Hid (M = movesN (a.states.take k)) ∧ Hid (stsOk 0 a.states = stsOk k (a.states.drop k)) ∧ M ≤ 4000000 ∧ Below w.heap.size w wr2) (fun _ x _ => (n + 10 - intOf x).toNat)
          case atStart => exact ⟨0, 0, rfl, rfl, Nat.zero_le _, rfl, rfl, by omega, hB0⟩
          case round =>
            clear hB0
            obtain ⟨k, M, rfl, rfl, hk, HM, HK, hMb, hB⟩ := hrel
            by_cases hl : k < n
            · have hl' : (k : Int) < (n : Int) := by omega
              obtain ⟨st, hst⟩ : ∃ y, a.states[k]? = some y := ⟨_, List.getElem?_eq_getElem (by rw [HN.out]; exact hl)⟩
              obtain ⟨gb, o, u, rfl, hgb, e0', e1', hu⟩ := HY.out.at (k := k) (by rw [HN.out]; exact hl)
              rw [(List.getElem?_eq_some_iff.1 hst).2] at hu e0'
              have e0 := (cell_below hB hgb _).trans e0'
              have e1 := (cell_below hB hgb _).trans e1'
              clear e0' e1'
              have hta := take_at hst
              have hdr := drop_at hst
              obtain ⟨fin, ys⟩ := st
              simp only at hu e0
              obtain ⟨a3, cap3, rfl, hc3, hm3⟩ := hu.form
              obtain ⟨p, hp⟩ : ∃ p, ys.length = p := ⟨_, rfl⟩
              rw [hp] at hc3 e1 hu
              have hMn : movesN (a.states.take (k + 1)) = M + p := by
                rw [hta, HM.out]; unfold movesN; rw [List.map_append, List.sum_append]; simp [hp]
              have hsum : M + p ≤ 4000000 := by
                have := movesN_take a.states (k + 1)
                have := HB.out
                omega
              have hstk : stsOk 0 a.states = (ys.all (stOk k) && stsOk (k + 1) (a.states.drop (k + 1))) := by
                rw [HK.out, hdr]; rfl
              have HMN := Lib.hid hMn
              have HST := Lib.hid hstk
              have HU := Lib.hid hu
              have HPL := Lib.hid hp
              have hBb := hB.alloc hB.size (.cells #[.bool fin, .slice a3 p cap3] 77)
              have hbad : stsOk 0 a.states = false → C = 110 := fun h => HBAD.out (by rw [HOK'.out, h]; simp)
              have HBADS := Lib.hid hbad
              clear hta hdr hMn hstk hp hst hbad
              go_wp2
              go_loopw [51] (fun x wr3 => ∃ j : Nat, x = .int .i64 (j : Int) ∧ j ≤ p ∧ Hid (∀ m ∈ ys.take j, stOk k m = true) ∧ Below w.heap.size w wr3) (fun x _ => (p + 10 - intOf x).toNat)
              case atStart => exact ⟨0, rfl, Nat.zero_le _, (fun m hm => by simp at hm), hBb⟩
              case round =>
                clear hBb hB
                obtain ⟨j, rfl, hj, HJ, hB⟩ := hrel
                by_cases hjl : j < p
                · have hjl' : (j : Int) < (p : Int) := by omega
                  obtain ⟨m, hmq⟩ : ∃ m, ys[j]? = some m := ⟨_, List.getElem?_eq_getElem (by rw [HPL.out]; exact hjl)⟩
                  obtain ⟨g3, o3, ut, rfl, hg3, f0, f1, f2, hut, q1, q2⟩ := (HU.out.below hB).at (k := j) (by rw [HPL.out]; exact hjl)
                  rw [(List.getElem?_eq_some_iff.1 hmq).2] at f0 f1 hut q1 q2
                  have htm := take_at hmq
                  obtain ⟨my, mn, mt⟩ := m
                  simp only at f0 f1 hut q1 q2
                  have hall : stOk k ⟨my, mn, mt⟩ = false → C = 110 := fun h => HBADS.out (by
                    have : ys.all (stOk k) = false := by
                      cases hh : ys.all (stOk k) with
                      | false => rfl
                      | true => rw [List.all_eq_true.1 hh _ (List.mem_of_getElem? hmq)] at h; cases h
                    rw [HST.out, this]; rfl)
                  have hmv : stOk k ⟨my, mn, mt⟩ = ((my &&& mn == 0) && setL mt (k : Int)) := rfl
                  have a1' := bits_and_u64_nat my mn q1 q2
                  have HALL := Lib.hid hall
                  have HMV := Lib.hid hmv
                  have HTM := Lib.hid htm
                  have hBm := hB.alloc hB.size (.cells #[.int .u64 (my : Int), .int .u64 (mn : Int), ut] 89)
                  have HSF := Lib.hid (setFn (k : Int) ut mt (wr.alloc (.cells #[.int .u64 (my : Int), .int .u64 (mn : Int), ut] 89)) ((hut.below (Below.refl _ _ |>.alloc hB.size _)).mono hBm.size) (by omega))
                  obtain ⟨a5, cap5, rfl, _, _⟩ := hut.form
                  obtain ⟨n5, hn5⟩ : ∃ n5, mt.length = n5 := ⟨_, rfl⟩
                  rw [hn5] at HSF hBm f2
                  clear hall hmv htm hmq hut q1 q2 hn5
                  generalize my &&& mn = c at a1' HMV
                  generalize setL mt (k : Int) = sb at HSF HMV
                  by_cases hc : c = 0
                  · have hc' : decide ((0 : Int) < (c : Int)) = false := decide_eq_false (by omega)
                    cases sb with
                    | true =>
                      have hok : stOk k ⟨my, mn, mt⟩ = true := by rw [HMV.out, hc]; rfl
                      have HOKM := Lib.hid hok
                      clear hok
                      go_wp2_with (fail)
                      refine (HSF.out).mono ?_
                      rintro e wm ⟨rfl, rfl⟩
                      go_wp2
                      exact ⟨⟨j + 1, rfl, by omega, (fun z hz => by
                        rw [HTM.out] at hz
                        rcases List.mem_append.1 hz with hz | hz
                        · exact HJ.out z hz
                        · rw [List.mem_singleton.1 hz]; exact HOKM.out), hBm⟩, by simp [intOf]; omega⟩
                    | false =>
                      have hC : C = 110 := HALL.out (by rw [HMV.out, hc]; rfl)
                      subst hC
                      clear HALL HBAD HGOOD HBADS
                      go_wp2_with (fail)
                      refine (HSF.out).mono ?_
                      rintro e wm ⟨rfl, rfl⟩
                      go_wp2
                      go_ret
                      exact ⟨rfl, hBm⟩
                  · have hc' : (0 : Int) < (c : Int) := by omega
                    have hC : C = 110 := HALL.out (by rw [HMV.out]; simp [hc])
                    subst hC
                    clear HALL HBAD HGOOD HBADS
                    go_wp2
                    go_ret
                    exact ⟨rfl, hBm⟩
                · have hjl' : decide ((j : Int) < (p : Int)) = false := decide_eq_false (by omega)
                  have HK' : Hid (stsOk 0 a.states = stsOk (k + 1) (a.states.drop (k + 1))) := by
                    show _ = _
                    have : ys.all (stOk k) = true := by
                      rw [List.all_eq_true]
                      intro z hz
                      exact HJ.out z (by rw [List.take_of_length_le (by rw [HPL.out]; omega)]; exact hz)
                    rw [HST.out, this, Bool.true_and]
                  have HM' : Hid (M + p = movesN (a.states.take (k + 1))) := HMN.out.symm
                  go_wp2
                  exact ⟨⟨k + 1, M + p, rfl, rfl, by omega, HM', HK', hsum, hB⟩, by simp [intOf]; omega⟩
            · have hl' : decide ((k : Int) < (n : Int)) = false := decide_eq_false (by omega)
              have hso : stsOk 0 a.states = true := by rw [HK.out, List.drop_eq_nil_of_le (by rw [HN.out]; omega)]; rfl
              have hMt : M = movesN a.states := by rw [HM.out, List.take_of_length_le (by rw [HN.out]; omega)]
              by_cases hM1 : 131072 < M
              · have hC : C = 110 := HBAD.out (by rw [HOK'.out, HIA.out, hso, ← hMt, decide_eq_false (by omega)]; rfl)
                have hM1' : (131072 : Int) < (M : Int) := by omega
                subst hC
                clear HBAD HGOOD hso hMt
                go_wp2
                go_ret
                exact ⟨rfl, hB⟩
              · have hC : C = 0 := HGOOD.out (by rw [HOK'.out, HIA.out, hso, ← hMt, decide_eq_true (by omega)]; rfl)
                have hM1' : decide ((131072 : Int) < (M : Int)) = false := decide_eq_false (by omega)
                subst hC
                clear HBAD HGOOD hso hMt
                go_wp2
                go_ret
                exact ⟨rfl, hB⟩
end Go.Proofs.YtelanndleinabaaDoor
