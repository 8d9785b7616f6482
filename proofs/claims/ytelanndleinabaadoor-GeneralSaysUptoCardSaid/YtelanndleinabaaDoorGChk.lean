/- The walk of general.Check. -/
import Derived.Test.YtelanndleinabaaDoorIdx
namespace Go.Proofs.YtelanndleinabaaDoor
open Go.RowKit
set_option linter.unusedVariables false

def inR (n : Nat) (x : Int) : Bool := decide (0 ≤ x) && decide (x < (n : Int))
def mvOk (n S : Nat) (m : Mv) : Bool := (m.yes &&& m.no == 0) && inR n m.to && (m.sets / 2 ^ S == 0)
/-- May an automaton be? -/
def genOk (g : Gen) : Bool :=
  decide (0 ≤ g.sets ∧ g.sets ≤ 60 ∧ g.states.length ≤ 4096 ∧ g.init.length ≤ 4096) && g.init.all (inR g.states.length) && g.states.all (fun l => l.all (mvOk g.states.length g.sets.toNat)) && decide ((g.states.map List.length).sum ≤ 131072)
def genCode (g : Gen) : Nat := if genOk g then 0 else 120

theorem sum_take_le (l : List (List Mv)) (k : Nat) : ((l.take k).map List.length).sum ≤ (l.map List.length).sum := by
  have : l = l.take k ++ l.drop k := (List.take_append_drop k l).symm
  conv => rhs; rw [this]
  rw [List.map_append, List.sum_append]
  omega
theorem take_at {A : Type} {xs : List A} {k : Nat} {y : A} (h : xs[k]? = some y) : xs.take (k + 1) = xs.take k ++ [y] := by
  have hk : k < xs.length := (List.getElem?_eq_some_iff.1 h).1
  rw [List.take_succ_eq_append_getElem hk, (List.getElem?_eq_some_iff.1 h).2]

theorem inR_out (n : Nat) (x : Int) : (decide (x < 0) || decide ((n : Int) ≤ x)) = !inR n x := by
  unfold inR
  by_cases h1 : x < 0 <;> by_cases h2 : (n : Int) ≤ x <;> simp [h1, h2] <;> omega

set_option maxHeartbeats 4000000 in
set_option maxRecDepth 100000 in
theorem genCheck (g : Gen) (v : Value) (w : World) (hg : GenAt w.heap.size w v g) (hb : (g.states.map List.length).sum ≤ 4000000) :
    Calls Tryd.prog 9 #[v] w fun e w' => e = .returned (.int .i64 (genCode g : Nat)) ∧ Below w.heap.size w w' := by
  obtain ⟨va, vb, rfl, hs, ha, hbb⟩ := hg
  obtain ⟨a1, cap1, rfl, hc1, hm1⟩ := ha.form
  obtain ⟨a2, cap2, rfl, hc2, hm2⟩ := hbb.form
  obtain ⟨n, hn⟩ : ∃ n, g.states.length = n := ⟨_, rfl⟩
  obtain ⟨q, hq⟩ : ∃ q, g.init.length = q := ⟨_, rfl⟩
  obtain ⟨S, hS⟩ : ∃ S, g.sets = S := ⟨_, rfl⟩
  obtain ⟨C, hC⟩ : ∃ C, genCode g = C := ⟨_, rfl⟩
  rw [hn] at hc2 ⊢
  rw [hq] at hc1 ⊢
  rw [hS] at hs ⊢
  rw [hC]
  have hok : genOk g = (decide (0 ≤ S ∧ S ≤ 60 ∧ n ≤ 4096 ∧ q ≤ 4096) && g.init.all (inR n) && g.states.all (fun l => l.all (mvOk n S.toNat)) && decide ((g.states.map List.length).sum ≤ 131072)) := by
    unfold genOk; rw [hn, hq, hS]
  have hbadC : genOk g = false → C = 120 := fun h => by rw [← hC]; unfold genCode; rw [h]; rfl
  have hokC : genOk g = true → C = 0 := fun h => by rw [← hC]; unfold genCode; rw [if_pos h]
  have HN := Lib.hid hn
  have HQ := Lib.hid hq
  have HOK := Lib.hid hok
  have HBAD := Lib.hid hbadC
  have HGOOD := Lib.hid hokC
  have HB := Lib.hid hb
  have HA := Lib.hid ha
  have HBB := Lib.hid hbb
  clear hn hq hok hbadC hokC hC hS hb ha hbb
  have hB0 : Below w.heap.size w ((w.alloc (.cells #[.int .i64 S, .slice a1 q cap1, .slice a2 n cap2] 25)).alloc (.cells #[.int .i64 (n : Int)] 3)) := ((Below.refl _ _).alloc (Nat.le_refl _) _).alloc (by simp) _
  have hG0 : Holds ((w.alloc (.cells #[.int .i64 S, .slice a1 q cap1, .slice a2 n cap2] 25)).alloc (.cells #[.int .i64 (n : Int)] 3)) w.heap.size 25 [.int .i64 S, .slice a1 q cap1, .slice a2 n cap2] := (Holds.new w _ _).alloc _
  have hK0 : Holds ((w.alloc (.cells #[.int .i64 S, .slice a1 q cap1, .slice a2 n cap2] 25)).alloc (.cells #[.int .i64 (n : Int)] 3)) (w.heap.size + 1) 3 [.int .i64 (n : Int)] := by
    have := Holds.new (w.alloc (.cells #[.int .i64 S, .slice a1 q cap1, .slice a2 n cap2] 25)) 3 #[.int .i64 (n : Int)]
    simpa using this
  by_cases hp : 0 ≤ S ∧ S ≤ 60 ∧ n ≤ 4096 ∧ q ≤ 4096
  · obtain ⟨s0, s1, s2, s3⟩ := hp
    obtain ⟨T, rfl⟩ : ∃ T : Nat, S = (T : Int) := ⟨S.toNat, by omega⟩
    have t1 : decide ((60 : Int) < (T : Int)) = false := decide_eq_false (by omega)
    have t2 : decide ((4096 : Int) < (n : Int)) = false := decide_eq_false (by omega)
    have t3 : decide ((4096 : Int) < (q : Int)) = false := decide_eq_false (by omega)
    have t0 : decide ((T : Int) < 0) = false := decide_eq_false (by omega)
    have hTn : (T : Int).toNat = T := Int.toNat_natCast T
    have HOK' : Hid (genOk g = (g.init.all (inR n) && g.states.all (fun l => l.all (mvOk n T)) && decide ((g.states.map List.length).sum ≤ 131072))) := by
      show _ = _
      rw [HOK.out, hTn, decide_eq_true (show (0 : Int) ≤ (T : Int) ∧ (T : Int) ≤ 60 ∧ n ≤ 4096 ∧ q ≤ 4096 from ⟨by omega, by omega, s2, s3⟩)]
      rfl
    have hA' : RowI w.heap.size w (.slice a1 q cap1) g.init := by rw [← HQ.out]; exact HA.out
    have hBB' : RowMM w.heap.size w (.slice a2 n cap2) g.states := by rw [← HN.out]; exact HBB.out
    have HAA := Lib.hid (hA'.below hB0)
    have HBBB := Lib.hid hBB'
    clear HOK hTn hA' hBB' HA HBB hs s0
    go_enter Tryd.func9, Tryd.ntmps9
    go_wp2_with (fail)
    generalize ((w.alloc (.cells #[.int .i64 (T : Int), .slice a1 q cap1, .slice a2 n cap2] 25)).alloc (.cells #[.int .i64 (n : Int)] 3)) = W0 at hB0 hG0 hK0 HAA ⊢
    refine (containsFunc 19 #[.pointer (some ⟨w.heap.size + 1, 0, none⟩)] enters19 (fun x => !inR n x) w.heap.size _ g.init W0 HAA.out (fun x _ => by have h := chkOut x (w.heap.size + 1) n W0 (hK0.cell 0); rw [inR_out] at h; exact h)).mono ?_
    rintro e W1 ⟨rfl, rfl⟩
    have x0 := hG0.cell 0
    have x1 := hG0.cell 1
    have x2 := hG0.cell 2
    simp at x0 x1 x2
    by_cases hinit : g.init.any (fun x => !inR n x) = true
    · have hC : C = 120 := HBAD.out (by
        have : g.init.all (inR n) = false := by
          rw [List.any_eq_true] at hinit
          obtain ⟨y, hy, hyn⟩ := hinit
          cases hh : g.init.all (inR n) with
          | false => rfl
          | true => rw [List.all_eq_true.1 hh y hy] at hyn; cases hyn
        rw [HOK'.out, this]; rfl)
      subst hC
      rw [hinit]
      clear HBAD HGOOD
      go_wp2
      go_ret
      exact ⟨rfl, hB0⟩
    · have hia : g.init.all (inR n) = true := by
        rw [List.all_eq_true]
        intro y hy
        cases hh : inR n y with
        | true => rfl
        | false => exact absurd (List.any_eq_true.2 ⟨y, hy, by rw [hh]; rfl⟩) hinit
      rw [eq_false_of_ne_true hinit]
      have HIA := Lib.hid hia
      clear hinit hia HAA
      go_wp2
      go_loopw [5, 39] (fun m x wr => ∃ (k M : Nat), x = .int .i64 (k : Int) ∧ m = .int .i64 (M : Int) ∧ k ≤ n ∧ Hid (M = ((g.states.take k).map List.length).sum) ∧ Hid (∀ l ∈ g.states.take k, l.all (mvOk n T) = true) ∧ M ≤ 4000000 ∧ Holds wr w.heap.size 25 [.int .i64 (T : Int), .slice a1 q cap1, .slice a2 n cap2] ∧ Holds wr (w.heap.size + 1) 3 [.int .i64 (n : Int)] ∧ Below w.heap.size w wr) (fun _ x _ => (n + 10 - intOf x).toNat)
      case atStart => exact ⟨0, 0, rfl, rfl, Nat.zero_le _, (show _ = _ by simp), (fun l hl => by simp at hl), by omega, hG0, hK0, hB0⟩
      case round =>
        clear hB0 hG0 hK0 x0 x1 x2
        obtain ⟨k, M, rfl, rfl, hk, HM, HK, hMb, hG, hKK, hB⟩ := hrel
        have x0 := hG.cell 0
        have x2 := hG.cell 2
        simp at x0 x2
        by_cases hl : k < n
        · have hl' : (k : Int) < (n : Int) := by omega
          have hn := HN.out
          obtain ⟨ys, hy⟩ : ∃ y, g.states[k]? = some y := ⟨_, List.getElem?_eq_getElem (by omega)⟩
          obtain ⟨gb, o, u, rfl, hgb, hcell0, hu⟩ := HBBB.out.at (k := k) (by omega)
          have hcell := (cell_below hB hgb _).trans hcell0
          have hyk : g.states[k]'(by omega) = ys := (List.getElem?_eq_some_iff.1 hy).2
          rw [hyk] at hu
          obtain ⟨a3, cap3, rfl, hc3, hm3⟩ := hu.form
          obtain ⟨p, hp⟩ : ∃ p, ys.length = p := ⟨_, rfl⟩
          rw [hp] at hu hc3 hcell
          clear hcell0
          have hta := take_at hy
          have hsum : M + p ≤ 4000000 := by
            have h1 := sum_take_le g.states (k + 1)
            rw [hta, List.map_append, List.sum_append, ← HM.out] at h1
            simp [hp] at h1
            have := HB.out
            omega
          have HTA := Lib.hid hta
          have HU := Lib.hid hu
          have HPL := Lib.hid hp
          have HY := Lib.hid hy
          clear hyk hn hta hu hp hy
          go_wp2
          go_loopw [49] (fun x wr => ∃ j : Nat, x = .int .i64 (j : Int) ∧ j ≤ p ∧ Hid (∀ m ∈ ys.take j, mvOk n T m = true) ∧ Holds wr w.heap.size 25 [.int .i64 (T : Int), .slice a1 q cap1, .slice (some ⟨gb, o, none⟩) n cap2] ∧ Holds wr (w.heap.size + 1) 3 [.int .i64 (n : Int)] ∧ Below w.heap.size w wr) (fun x _ => (p + 10 - intOf x).toNat)
          case atStart => exact ⟨0, rfl, Nat.zero_le _, (fun m hm => by simp at hm), hG, hKK, hB⟩
          case round =>
            clear hG hKK hB hcell x0 x2
            obtain ⟨j, rfl, hj, HJ, hG, hKK, hB⟩ := hrel
            by_cases hjl : j < p
            · have hjl' : (j : Int) < (p : Int) := by omega
              have hp := HPL.out
              obtain ⟨m, hmq⟩ : ∃ m, ys[j]? = some m := ⟨_, List.getElem?_eq_getElem (by omega)⟩
              obtain ⟨g3, o3, rfl, hg3, e0, e1, e2, e3⟩ := (HU.out.below hB).at (k := j) (by omega)
              have hmk : ys[j]'(by omega) = m := (List.getElem?_eq_some_iff.1 hmq).2
              rw [hmk] at e0 e1 e2 e3
              obtain ⟨w1, w2, w3, w4⟩ := HU.out.2 m (List.mem_of_getElem? hmq)
              have htm := take_at hmq
              have hall : mvOk n T m = false → C = 120 := fun h => HBAD.out (by
                have : g.states.all (fun l => l.all (mvOk n T)) = false := by
                  cases hh : g.states.all (fun l => l.all (mvOk n T)) with
                  | false => rfl
                  | true =>
                    have h1 := List.all_eq_true.1 hh ys (List.mem_of_getElem? HY.out)
                    rw [List.all_eq_true.1 h1 m (List.mem_of_getElem? hmq)] at h
                    cases h
                rw [HOK'.out, this]; simp)
              have hmv : mvOk n T m = ((m.yes &&& m.no == 0) && inR n m.to && (m.sets / 2 ^ T == 0)) := rfl
              have a1' := bits_and_u64_nat m.yes m.no w1 w2
              have a2' : (m.sets : Int) / 2 ^ T = ((m.sets / 2 ^ T : Nat) : Int) := by norm_cast
              have hxlt := hKK.lt
              have hglt := hG.lt
              have hBm := hB.alloc hB.size (.cells #[.int .u64 (m.yes : Int), .int .u64 (m.no : Int), .int .i64 m.to, .int .u64 (m.sets : Int)] 53)
              have hKm := hKK.alloc (.cells #[.int .u64 (m.yes : Int), .int .u64 (m.no : Int), .int .i64 m.to, .int .u64 (m.sets : Int)] 53)
              have hGm := hG.alloc (.cells #[.int .u64 (m.yes : Int), .int .u64 (m.no : Int), .int .i64 m.to, .int .u64 (m.sets : Int)] 53)
              have k0 := hG.cell 0
              simp at k0
              have HALL := Lib.hid hall
              have HMV := Lib.hid hmv
              have HTM := Lib.hid htm
              clear hall hmv htm hmk hp hmq
              generalize m.yes &&& m.no = c at a1' HMV
              generalize m.sets / 2 ^ T = d at a2' HMV
              by_cases hc : c = 0
              · have hc' : decide ((0 : Int) < (c : Int)) = false := decide_eq_false (by omega)
                go_wp2_with (fail)
                refine (chkOut m.to (w.heap.size + 1) n _ (hKm.cell 0)).mono ?_
                rintro e wm ⟨rfl, rfl⟩
                rw [inR_out]
                by_cases hr : inR n m.to = true
                · rw [hr]
                  by_cases hd : d = 0
                  · have hd' : decide ((0 : Int) < (d : Int)) = false := decide_eq_false (by omega)
                    have hok : mvOk n T m = true := by rw [HMV.out, hc, hr, hd]; rfl
                    have HOKM := Lib.hid hok
                    clear hok
                    go_wp2
                    exact ⟨⟨j + 1, rfl, by omega, (fun z hz => by
                      rw [HTM.out] at hz
                      rcases List.mem_append.1 hz with hz | hz
                      · exact HJ.out z hz
                      · rw [List.mem_singleton.1 hz]; exact HOKM.out), hGm, hKm, hBm⟩, by simp [intOf]; omega⟩
                  · have hd' : (0 : Int) < (d : Int) := by omega
                    have hC : C = 120 := HALL.out (by rw [HMV.out, hc, hr]; simp [hd])
                    subst hC
                    clear HALL HBAD HGOOD
                    go_wp2
                    go_ret
                    exact ⟨rfl, hBm⟩
                · have hC : C = 120 := HALL.out (by rw [HMV.out, hc, eq_false_of_ne_true hr]; rfl)
                  subst hC
                  rw [eq_false_of_ne_true hr]
                  clear HALL HBAD HGOOD
                  go_wp2
                  go_ret
                  exact ⟨rfl, hBm⟩
              · have hc' : (0 : Int) < (c : Int) := by omega
                have hC : C = 120 := HALL.out (by rw [HMV.out]; simp [hc])
                subst hC
                clear HALL HBAD HGOOD
                go_wp2
                go_ret
                exact ⟨rfl, hBm⟩
            · have hjl' : decide ((j : Int) < (p : Int)) = false := decide_eq_false (by omega)
              have hjp : j = p := by omega
              have HM' : Hid (M + p = ((g.states.take (k + 1)).map List.length).sum) := by
                show _ = _
                rw [HTA.out, List.map_append, List.sum_append, ← HM.out]
                simp [HPL.out]
              have HK' : Hid (∀ l ∈ g.states.take (k + 1), l.all (mvOk n T) = true) := fun l hl => by
                rw [HTA.out] at hl
                rcases List.mem_append.1 hl with hl | hl
                · exact HK.out l hl
                · rw [List.mem_singleton.1 hl, List.all_eq_true]
                  intro z hz
                  exact HJ.out z (by rw [List.take_of_length_le (by rw [HPL.out]; omega)]; exact hz)
              go_wp2
              exact ⟨⟨k + 1, M + p, rfl, rfl, by omega, HM', HK', hsum, hG, hKK, hB⟩, by simp [intOf]; omega⟩
        · have hl' : decide ((k : Int) < (n : Int)) = false := decide_eq_false (by omega)
          have htk : g.states.take k = g.states := List.take_of_length_le (by rw [HN.out]; omega)
          have hMt : M = (g.states.map List.length).sum := by rw [HM.out, htk]
          have hsa : g.states.all (fun l => l.all (mvOk n T)) = true := by
            rw [List.all_eq_true]
            intro l hl
            exact HK.out l (by rw [htk]; exact hl)
          by_cases hM1 : 131072 < M
          · have hC : C = 120 := HBAD.out (by rw [HOK'.out, HIA.out, hsa, ← hMt, decide_eq_false (by omega)]; rfl)
            have hM1' : (131072 : Int) < (M : Int) := by omega
            subst hC
            clear HBAD HGOOD hsa htk hMt
            go_wp2
            go_ret
            exact ⟨rfl, hB⟩
          · have hC : C = 0 := HGOOD.out (by rw [HOK'.out, HIA.out, hsa, ← hMt, decide_eq_true (by omega)]; rfl)
            have hM1' : decide ((131072 : Int) < (M : Int)) = false := decide_eq_false (by omega)
            subst hC
            clear HBAD HGOOD hsa htk hMt
            go_wp2
            go_ret
            exact ⟨rfl, hB⟩
  · have hC : C = 120 := HBAD.out (by rw [HOK.out, decide_eq_false hp]; rfl)
    clear hK0 hG0 HBAD HGOOD
    subst hC
    by_cases h0 : S < 0
    · go_enter Tryd.func9, Tryd.ntmps9
      go_wp2
      go_ret
      exact ⟨rfl, hB0⟩
    · have h0' : decide (S < 0) = false := decide_eq_false h0
      by_cases h1 : (60 : Int) < S
      · clear hp
        go_enter Tryd.func9, Tryd.ntmps9
        go_wp2
        go_ret
        exact ⟨rfl, hB0⟩
      · have h1' : decide ((60 : Int) < S) = false := decide_eq_false h1
        by_cases h2 : (4096 : Int) < (n : Int)
        · clear hp
          go_enter Tryd.func9, Tryd.ntmps9
          go_wp2
          go_ret
          exact ⟨rfl, hB0⟩
        · have h2' : decide ((4096 : Int) < (n : Int)) = false := decide_eq_false h2
          have h3 : (4096 : Int) < (q : Int) := by omega
          clear hp
          go_enter Tryd.func9, Tryd.ntmps9
          go_wp2
          go_ret
          exact ⟨rfl, hB0⟩
end Go.Proofs.YtelanndleinabaaDoor
