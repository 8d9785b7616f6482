/- The walk of sextantref12.Check. (Printed by mkrchk.py.) -/
import Derived.Test.YtelanndleinabaaDoorGChk
namespace Go.Proofs.YtelanndleinabaaDoor
open Go.RowKit
set_option linter.unusedVariables false

set_option maxHeartbeats 8000000 in
set_option maxRecDepth 100000 in
theorem refCheck (g : Gen) (v : Value) (w : World) (hg : GenAt w.heap.size w v g) (hb : (g.states.map List.length).sum ≤ 4000000) :
    Calls Tryd.prog 8 #[v] w fun e w' => e = .returned (.int .i64 (genCode g : Nat)) ∧ Below w.heap.size w w' := by
  obtain ⟨va, vb, rfl, hs, ha, hbb⟩ := hg
  obtain ⟨a1, cap1, rfl, hc1, hm1⟩ := ha.form
  obtain ⟨a2, cap2, rfl, hc2, hm2⟩ := hbb.form
  obtain ⟨n, hn⟩ : ∃ n, g.states.length = n := ⟨_, rfl⟩
  obtain ⟨q, hq⟩ : ∃ q, g.init.length = q := ⟨_, rfl⟩
  obtain ⟨S, hS⟩ : ∃ S, g.sets = S := ⟨_, rfl⟩
  obtain ⟨C, hC⟩ : ∃ C, genCode g = C := ⟨_, rfl⟩
  obtain ⟨O, hO⟩ : ∃ O, genOk g = O := ⟨_, rfl⟩
  rw [hn] at hc2 ⊢
  rw [hq] at hc1 ⊢
  rw [hS] at hs ⊢
  rw [hC]
  have hok : O = (decide (0 ≤ S ∧ S ≤ 60 ∧ n ≤ 4096 ∧ q ≤ 4096) && g.init.all (inR n) && g.states.all (fun l => l.all (mvOk n S.toNat)) && decide ((g.states.map List.length).sum ≤ 131072)) := by
    rw [← hO]; unfold genOk; rw [hn, hq, hS]
  have hCO : C = if O then 0 else 120 := by rw [← hC, ← hO]; rfl
  have HN := Lib.hid hn
  have HQ := Lib.hid hq
  have HOK := Lib.hid hok
  have HCO := Lib.hid hCO
  have HB := Lib.hid hb
  have HA := Lib.hid ha
  have HBB := Lib.hid hbb
  clear hn hq hok hCO hC hS hb ha hbb hO
  have hB0 : Below w.heap.size w (w.alloc (.cells #[.int .i64 S, .slice a1 q cap1, .slice a2 n cap2] 25)) := (Below.refl _ _).alloc (Nat.le_refl _) _
  have hG0 : Holds (w.alloc (.cells #[.int .i64 S, .slice a1 q cap1, .slice a2 n cap2] 25)) w.heap.size 25 [.int .i64 S, .slice a1 q cap1, .slice a2 n cap2] := Holds.new w _ _
  by_cases hp : ¬ (0 ≤ S ∧ S ≤ 60 ∧ n ≤ 4096 ∧ q ≤ 4096)
  · have hC : C = 120 := by rw [HCO.out, HOK.out, decide_eq_false hp]; rfl
    subst hC
    clear HCO
    by_cases h0 : S < 0
    · have h0' : decide (0 ≤ S) = false := decide_eq_false (by omega)
      clear hp
      go_enter Tryd.func8, Tryd.ntmps8
      go_wp2
      generalize w.alloc (.cells #[.int .i64 S, .slice a1 q cap1, .slice a2 n cap2] 25) = W0 at hB0 hG0 ⊢
      have x0 := hG0.cell 0
      have x1 := hG0.cell 1
      have x2 := hG0.cell 2
      simp at x0 x1 x2
      go_loopw [4, 5] (fun f x wr => f = .bool false ∧ x = .int .i64 0 ∧ wr = W0) (fun _ _ _ => 0)
      case atStart => exact ⟨rfl, rfl, rfl⟩
      case round =>
        obtain ⟨rfl, rfl, rfl⟩ := hrel
        go_wp2
        all_goals
          go_loopw [4, 6, 7] (fun f y x wr' => f = .bool false ∧ y = .int .i64 0 ∧ x = .int .i64 0 ∧ wr' = wr) (fun _ _ _ _ => 0)
          case atStart => exact ⟨rfl, rfl, rfl, rfl⟩
          case round =>
            obtain ⟨rfl, rfl, rfl, rfl⟩ := hrel
            go_wp2
            all_goals go_ret
            all_goals exact ⟨rfl, hB0⟩
    · have h0' : decide (0 ≤ S) = true := decide_eq_true (by omega)
      by_cases h1 : (60 : Int) < S
      · have h1' : decide (S ≤ 60) = false := decide_eq_false (by omega)
        clear hp
        go_enter Tryd.func8, Tryd.ntmps8
        go_wp2
        generalize w.alloc (.cells #[.int .i64 S, .slice a1 q cap1, .slice a2 n cap2] 25) = W0 at hB0 hG0 ⊢
        have x0 := hG0.cell 0
        have x1 := hG0.cell 1
        have x2 := hG0.cell 2
        simp at x0 x1 x2
        go_loopw [4, 5] (fun f x wr => f = .bool false ∧ x = .int .i64 0 ∧ wr = W0) (fun _ _ _ => 0)
        case atStart => exact ⟨rfl, rfl, rfl⟩
        case round =>
          obtain ⟨rfl, rfl, rfl⟩ := hrel
          go_wp2
          all_goals
            go_loopw [4, 6, 7] (fun f y x wr' => f = .bool false ∧ y = .int .i64 0 ∧ x = .int .i64 0 ∧ wr' = wr) (fun _ _ _ _ => 0)
            case atStart => exact ⟨rfl, rfl, rfl, rfl⟩
            case round =>
              obtain ⟨rfl, rfl, rfl, rfl⟩ := hrel
              go_wp2
              all_goals go_ret
              all_goals exact ⟨rfl, hB0⟩
      · have h1' : decide (S ≤ 60) = true := decide_eq_true (by omega)
        by_cases h2 : (4096 : Int) < (n : Int)
        · have h2' : decide ((n : Int) ≤ 4096) = false := decide_eq_false (by omega)
          clear hp
          go_enter Tryd.func8, Tryd.ntmps8
          go_wp2
          generalize w.alloc (.cells #[.int .i64 S, .slice a1 q cap1, .slice a2 n cap2] 25) = W0 at hB0 hG0 ⊢
          have x0 := hG0.cell 0
          have x1 := hG0.cell 1
          have x2 := hG0.cell 2
          simp at x0 x1 x2
          go_loopw [4, 5] (fun f x wr => f = .bool false ∧ x = .int .i64 0 ∧ wr = W0) (fun _ _ _ => 0)
          case atStart => exact ⟨rfl, rfl, rfl⟩
          case round =>
            obtain ⟨rfl, rfl, rfl⟩ := hrel
            go_wp2
            all_goals
              go_loopw [4, 6, 7] (fun f y x wr' => f = .bool false ∧ y = .int .i64 0 ∧ x = .int .i64 0 ∧ wr' = wr) (fun _ _ _ _ => 0)
              case atStart => exact ⟨rfl, rfl, rfl, rfl⟩
              case round =>
                obtain ⟨rfl, rfl, rfl, rfl⟩ := hrel
                go_wp2
                all_goals go_ret
                all_goals exact ⟨rfl, hB0⟩
        · have h2' : decide ((n : Int) ≤ 4096) = true := decide_eq_true (by omega)
          have h3' : decide ((q : Int) ≤ 4096) = false := decide_eq_false (by omega)
          clear hp
          go_enter Tryd.func8, Tryd.ntmps8
          go_wp2
          generalize w.alloc (.cells #[.int .i64 S, .slice a1 q cap1, .slice a2 n cap2] 25) = W0 at hB0 hG0 ⊢
          have x0 := hG0.cell 0
          have x1 := hG0.cell 1
          have x2 := hG0.cell 2
          simp at x0 x1 x2
          go_loopw [4, 5] (fun f x wr => f = .bool false ∧ x = .int .i64 0 ∧ wr = W0) (fun _ _ _ => 0)
          case atStart => exact ⟨rfl, rfl, rfl⟩
          case round =>
            obtain ⟨rfl, rfl, rfl⟩ := hrel
            go_wp2
            all_goals
              go_loopw [4, 6, 7] (fun f y x wr' => f = .bool false ∧ y = .int .i64 0 ∧ x = .int .i64 0 ∧ wr' = wr) (fun _ _ _ _ => 0)
              case atStart => exact ⟨rfl, rfl, rfl, rfl⟩
              case round =>
                obtain ⟨rfl, rfl, rfl, rfl⟩ := hrel
                go_wp2
                all_goals go_ret
                all_goals exact ⟨rfl, hB0⟩
  · have hp' := Decidable.not_not.1 hp
    obtain ⟨s0, s1, s2, s3⟩ := hp'
    clear hp
    obtain ⟨T, rfl⟩ : ∃ T : Nat, S = (T : Int) := ⟨S.toNat, by omega⟩
    have t1 : decide ((T : Int) ≤ 60) = true := decide_eq_true (by omega)
    have t2 : decide ((n : Int) ≤ 4096) = true := decide_eq_true (by omega)
    have t3 : decide ((q : Int) ≤ 4096) = true := decide_eq_true (by omega)
    have hTn : (T : Int).toNat = T := Int.toNat_natCast T
    have HOK' : Hid (O = (g.init.all (inR n) && g.states.all (fun l => l.all (mvOk n T)) && decide ((g.states.map List.length).sum ≤ 131072))) := by
      show _ = _
      rw [HOK.out, hTn, decide_eq_true (show (0 : Int) ≤ (T : Int) ∧ (T : Int) ≤ 60 ∧ n ≤ 4096 ∧ q ≤ 4096 from ⟨by omega, by omega, s2, s3⟩)]
      rfl
    have hA' : RowI w.heap.size w (.slice a1 q cap1) g.init := by rw [← HQ.out]; exact HA.out
    have hBB' : RowMM w.heap.size w (.slice a2 n cap2) g.states := by rw [← HN.out]; exact HBB.out
    have HAA := Lib.hid hA'
    have HBBB := Lib.hid hBB'
    have q3 := s3
    clear HOK hTn hA' hBB' HA HBB hs s0
    go_enter Tryd.func8, Tryd.ntmps8
    go_wp2
    generalize w.alloc (.cells #[.int .i64 (T : Int), .slice a1 q cap1, .slice a2 n cap2] 25) = W0 at hB0 hG0 ⊢
    go_loopw [4, 5] (fun f x wr => ∃ (F : Bool) (k : Nat), f = .bool F ∧ x = .int .i64 (k : Int) ∧ k ≤ q ∧ Hid (O = (F && (g.init.drop k).all (inR n) && g.states.all (fun l => l.all (mvOk n T)) && decide ((g.states.map List.length).sum ≤ 131072))) ∧ wr = W0) (fun _ x _ => (q + 10 - intOf x).toNat)
    case atStart => exact ⟨true, 0, rfl, rfl, Nat.zero_le _, HOK', rfl⟩
    case round =>
      obtain ⟨F, k, rfl, rfl, hk, HK, rfl⟩ := hrel
      have x0 := hG0.cell 0
      have x1 := hG0.cell 1
      have x2 := hG0.cell 2
      simp at x0 x1 x2
      by_cases hl : k < q ∧ F = true
      · obtain ⟨hl, rfl⟩ := hl
        have hl' : (k : Int) < (q : Int) := by omega
        have hq := HQ.out
        obtain ⟨y, hy⟩ : ∃ y, g.init[k]? = some y := ⟨_, List.getElem?_eq_getElem (by omega)⟩
        obtain ⟨gb, o, rfl, hgb, hcell0⟩ := HAA.out.at (k := k) (by omega)
        have hcell := (cell_below hB0 hgb _).trans hcell0
        have hyk : g.init[k]'(by omega) = y := (List.getElem?_eq_some_iff.1 hy).2
        rw [hyk] at hcell
        have HD := Lib.hid (drop_at hy)
        clear hcell0 hyk hy hq
        have HK' : Hid (O = ((decide (0 ≤ y) && decide (y < (n : Int))) && (g.init.drop (k + 1)).all (inR n) && g.states.all (fun l => l.all (mvOk n T)) && decide ((g.states.map List.length).sum ≤ 131072))) := by
          show _ = _
          rw [HK.out, HD.out, List.all_cons, inR, Bool.true_and]
        by_cases h0 : 0 ≤ y
        · have h0' : decide (0 ≤ y) = true := decide_eq_true h0
          have HK2 : Hid (O = (decide (y < (n : Int)) && (g.init.drop (k + 1)).all (inR n) && g.states.all (fun l => l.all (mvOk n T)) && decide ((g.states.map List.length).sum ≤ 131072))) := by
            show _ = _
            rw [HK'.out, h0', Bool.true_and]
          go_wp2
          exact ⟨⟨_, k + 1, rfl, rfl, by omega, HK2, trivial⟩, by simp [intOf]; omega⟩
        · have h0' : decide (0 ≤ y) = false := decide_eq_false h0
          have HK2 : Hid (O = (false && (g.init.drop (k + 1)).all (inR n) && g.states.all (fun l => l.all (mvOk n T)) && decide ((g.states.map List.length).sum ≤ 131072))) := by
            show _ = _
            rw [HK'.out, h0', Bool.false_and]
          go_wp2
          exact ⟨⟨false, k + 1, rfl, rfl, by omega, HK2, trivial⟩, by simp [intOf]; omega⟩
      · have HK2 : Hid (O = (F && (g.states.drop 0).all (fun l => l.all (mvOk n T)) && decide (0 + ((g.states.drop 0).map List.length).sum ≤ 131072))) := by
          show _ = _
          rw [HK.out, List.drop_zero, Nat.zero_add]
          cases F with
          | false => rfl
          | true =>
            have h0 : ¬ k < q := fun h => hl ⟨h, rfl⟩
            rw [List.drop_eq_nil_of_le (by rw [HQ.out]; omega)]
            rfl
        have hgo : F = false ∨ decide ((k : Int) < (q : Int)) = false := by
          cases F with
          | false => exact .inl rfl
          | true => exact .inr (decide_eq_false (by
              intro h
              exact hl ⟨by omega, rfl⟩))
        clear hl
        have HF : Hid (F = false ∨ decide ((k : Int) < (q : Int)) = false) := hgo
        clear hgo
        have HEX : Hid (∀ F' : Bool, F' = F → O = (F' && (g.states.drop 0).all (fun l => l.all (mvOk n T)) && decide (0 + ((g.states.drop 0).map List.length).sum ≤ 131072))) := fun F' h => by rw [h]; exact HK2.out
        clear HK2 HK
        by_cases hkq : (k : Int) < (q : Int)
        · have hF : F = false := by
            rcases HF.out with h | h
            · exact h
            · rw [decide_eq_true hkq] at h; cases h
          subst hF
          have HK2 := Lib.hid (HEX.out false rfl)
          clear HEX HF HAA
          go_wp2
          go_loopw [4, 6, 7] (fun f y x wr => ∃ (F : Bool) (M k : Nat), f = .bool F ∧ y = .int .i64 (M : Int) ∧ x = .int .i64 (k : Int) ∧ k ≤ n ∧ M ≤ 4000000 ∧ Hid (M = ((g.states.take k).map List.length).sum) ∧ Hid (O = (F && (g.states.drop k).all (fun l => l.all (mvOk n T)) && decide (M + ((g.states.drop k).map List.length).sum ≤ 131072))) ∧ Hid (F = true → M ≤ 131072) ∧ Holds wr w.heap.size 25 [.int .i64 (T : Int), .slice a1 q cap1, .slice a2 n cap2] ∧ Below w.heap.size w wr) (fun _ _ x _ => (n + 10 - intOf x).toNat)
          case atStart => exact ⟨_, 0, 0, rfl, rfl, rfl, Nat.zero_le _, by omega, (show _ = _ by simp), HK2, (fun _ => by omega), hG0, hB0⟩
          case round =>
            clear HK2 hG0 hB0 x0 x1 x2
            obtain ⟨F, M, k, rfl, rfl, rfl, hk, hMb, HM, HK, HF0, hG, hB⟩ := hrel
            have x0 := hG.cell 0
            have x2 := hG.cell 2
            simp at x0 x2
            by_cases hl : k < n ∧ F = true
            · obtain ⟨hl, rfl⟩ := hl
              have hl' : (k : Int) < (n : Int) := by omega
              have hn := HN.out
              obtain ⟨ys, hy⟩ : ∃ y, g.states[k]? = some y := ⟨_, List.getElem?_eq_getElem (by omega)⟩
              obtain ⟨gb, o, u, rfl, hgb, hcell0, hu⟩ := HBBB.out.at (k := k) (by omega)
              have hcell := (cell_below hB hgb _).trans hcell0
              have hyk : g.states[k]'(by omega) = ys := (List.getElem?_eq_some_iff.1 hy).2
              rw [hyk] at hu
              obtain ⟨a3, cap3, rfl, hc3, hm3⟩ := hu.form
              obtain ⟨p, hp⟩ : ∃ p, ys.length = p := ⟨_, rfl⟩
              rw [hp] at hu hc3 hcell hcell0
              have hta := take_at hy
              have hda := drop_at hy
              have hsum : M + p ≤ 4000000 := by
                have h1 := sum_take_le g.states (k + 1)
                rw [hta, List.map_append, List.sum_append, ← HM.out] at h1
                simp [hp] at h1
                have := HB.out
                omega
              have HM' : Hid (M + p = ((g.states.take (k + 1)).map List.length).sum) := by
                show _ = _
                rw [hta, List.map_append, List.sum_append, ← HM.out]
                simp [hp]
              have HK0 : Hid (O = (decide (M + p ≤ 131072) && (ys.drop 0).all (mvOk n T) && (g.states.drop (k + 1)).all (fun l => l.all (mvOk n T)) && decide (M + p + ((g.states.drop (k + 1)).map List.length).sum ≤ 131072))) := by
                show _ = _
                rw [HK.out, hda, List.all_cons, List.drop_zero, List.map_cons, List.sum_cons, hp, Bool.true_and, ← Nat.add_assoc]
                by_cases hbig : M + p ≤ 131072
                · rw [decide_eq_true hbig, Bool.true_and]
                · rw [decide_eq_false hbig, decide_eq_false (by omega)]; simp
              have HU := Lib.hid hu
              have HPL := Lib.hid hp
              have HCE := Lib.hid hcell0
              obtain ⟨P, hP⟩ : ∃ P, M + p = P := ⟨_, rfl⟩
              have hPI : (M : Int) + (p : Int) = (P : Int) := by omega
              rw [hP] at HM' HK0 hsum
              obtain ⟨D, hD⟩ : ∃ D, decide (P ≤ 131072) = D := ⟨_, rfl⟩
              have hDI : decide ((P : Int) ≤ 131072) = D := by rw [← hD, decide_eq_decide]; omega
              rw [hD] at HK0
              have HD := Lib.hid (show D = true → P ≤ 131072 from fun h => of_decide_eq_true (hD.trans h))
              clear hyk hn hta hda hu hp hy hcell0 HK HM hP hD HF0
              go_wp2
              go_loopw [4, 8] (fun f x wr => ∃ (F : Bool) (j : Nat), f = .bool F ∧ x = .int .i64 (j : Int) ∧ j ≤ p ∧ Hid (O = (F && (ys.drop j).all (mvOk n T) && (g.states.drop (k + 1)).all (fun l => l.all (mvOk n T)) && decide (P + ((g.states.drop (k + 1)).map List.length).sum ≤ 131072))) ∧ Hid (F = true → P ≤ 131072) ∧ Holds wr w.heap.size 25 [.int .i64 (T : Int), .slice a1 q cap1, .slice (some ⟨gb, o, none⟩) n cap2] ∧ Below w.heap.size w wr) (fun _ x _ => (p + 10 - intOf x).toNat)
              case atStart => exact ⟨_, 0, rfl, rfl, Nat.zero_le _, HK0, HD, hG, hB⟩
              case round =>
                clear HK0 hG hB hcell x0 x2 HD
                obtain ⟨F, j, rfl, rfl, hj, HK, HFP, hG, hB⟩ := hrel
                have x0 := hG.cell 0
                have x2 := hG.cell 2
                simp at x0 x2
                have hcell := (cell_below hB hgb _).trans HCE.out
                by_cases hjl : j < p ∧ F = true
                · obtain ⟨hjl, rfl⟩ := hjl
                  have hjl' : (j : Int) < (p : Int) := by omega
                  have hp := HPL.out
                  obtain ⟨m, hmq⟩ : ∃ m, ys[j]? = some m := ⟨_, List.getElem?_eq_getElem (by omega)⟩
                  obtain ⟨g3, o3, rfl, hg3, e0, e1, e2, e3⟩ := (HU.out.below hB).at (k := j) (by omega)
                  have hmk : ys[j]'(by omega) = m := (List.getElem?_eq_some_iff.1 hmq).2
                  rw [hmk] at e0 e1 e2 e3
                  obtain ⟨w1, w2, w3, w4⟩ := HU.out.2 m (List.mem_of_getElem? hmq)
                  have hdm := drop_at hmq
                  have a1' := bits_and_u64_nat m.yes m.no w1 w2
                  have a2' : (m.sets : Int) / 2 ^ T = ((m.sets / 2 ^ T : Nat) : Int) := by norm_cast
                  have hglt := hG.lt
                  have hBm := hB.alloc hB.size (.cells #[.int .u64 (m.yes : Int), .int .u64 (m.no : Int), .int .i64 m.to, .int .u64 (m.sets : Int)] 53)
                  have hGm := hG.alloc (.cells #[.int .u64 (m.yes : Int), .int .u64 (m.no : Int), .int .i64 m.to, .int .u64 (m.sets : Int)] 53)
                  have HK1 : Hid (O = (((m.yes &&& m.no == 0) && (decide (0 ≤ m.to) && decide (m.to < (n : Int))) && (m.sets / 2 ^ T == 0)) && (ys.drop (j + 1)).all (mvOk n T) && (g.states.drop (k + 1)).all (fun l => l.all (mvOk n T)) && decide (P + ((g.states.drop (k + 1)).map List.length).sum ≤ 131072))) := by
                    show _ = _
                    rw [HK.out, hdm, List.all_cons, mvOk, inR, Bool.true_and]
                  clear hmk hp hmq hdm HK
                  generalize m.yes &&& m.no = c at a1' HK1
                  generalize m.sets / 2 ^ T = d at a2' HK1
                  have fin : ∀ F' : Bool, F' = ((c == 0) && (decide (0 ≤ m.to) && decide (m.to < (n : Int))) && (d == 0)) → Hid (O = (F' && (ys.drop (j + 1)).all (mvOk n T) && (g.states.drop (k + 1)).all (fun l => l.all (mvOk n T)) && decide (P + ((g.states.drop (k + 1)).map List.length).sum ≤ 131072))) := by
                    intro F' h
                    show _ = _
                    rw [h]; exact HK1.out
                  have FIN := Lib.hid fin
                  clear fin HK1
                  by_cases hc : c = 0
                  · have hc' : ((c : Int) == 0) = true := by simp [hc]
                    by_cases hr0 : 0 ≤ m.to
                    · have hr0' : decide (0 ≤ m.to) = true := decide_eq_true hr0
                      by_cases hr1 : m.to < (n : Int)
                      · have hr1' : decide (m.to < (n : Int)) = true := decide_eq_true hr1
                        by_cases hd : d = 0
                        · have hd' : ((d : Int) == 0) = true := by simp [hd]
                          have HF := FIN.out true (by rw [hc, hd, hr0', hr1']; rfl)
                          clear FIN
                          go_wp2
                          exact ⟨⟨true, j + 1, rfl, rfl, by omega, HF, HFP, hGm, hBm⟩, by simp [intOf]; omega⟩
                        · have hd' : ((d : Int) == 0) = false := by simp; omega
                          have HF := FIN.out false (by rw [hr0', hr1']; simp [hd])
                          clear FIN
                          go_wp2
                          exact ⟨⟨false, j + 1, rfl, rfl, by omega, HF, (fun h => by cases h), hGm, hBm⟩, by simp [intOf]; omega⟩
                      · have hr1' : decide (m.to < (n : Int)) = false := decide_eq_false hr1
                        have HF := FIN.out false (by rw [hr1']; simp)
                        clear FIN
                        go_wp2
                        exact ⟨⟨false, j + 1, rfl, rfl, by omega, HF, (fun h => by cases h), hGm, hBm⟩, by simp [intOf]; omega⟩
                    · have hr0' : decide (0 ≤ m.to) = false := decide_eq_false hr0
                      have HF := FIN.out false (by rw [hr0']; simp)
                      clear FIN
                      go_wp2
                      exact ⟨⟨false, j + 1, rfl, rfl, by omega, HF, (fun h => by cases h), hGm, hBm⟩, by simp [intOf]; omega⟩
                  · have hc' : ((c : Int) == 0) = false := by simp; omega
                    have HF := FIN.out false (by simp [hc])
                    clear FIN
                    go_wp2
                    exact ⟨⟨false, j + 1, rfl, rfl, by omega, HF, (fun h => by cases h), hGm, hBm⟩, by simp [intOf]; omega⟩
                · have HKE : Hid (O = (F && (g.states.drop (k + 1)).all (fun l => l.all (mvOk n T)) && decide (P + ((g.states.drop (k + 1)).map List.length).sum ≤ 131072))) := by
                    show _ = _
                    rw [HK.out]
                    cases F with
                    | false => rfl
                    | true =>
                      have h0 : ¬ j < p := fun h => hjl ⟨h, rfl⟩
                      rw [List.drop_eq_nil_of_le (by rw [HPL.out]; omega)]
                      rfl
                  have HF2 : Hid (j < p → F = false) := fun h => by
                    cases F with
                    | false => rfl
                    | true => exact absurd ⟨h, rfl⟩ hjl
                  clear hjl HK
                  by_cases hjp : (j : Int) < (p : Int)
                  · obtain rfl := HF2.out (by omega)
                    go_wp2
                    exact ⟨⟨false, P, k + 1, rfl, rfl, rfl, by omega, hsum, HM', HKE, (fun h => by cases h), hG, hB⟩, by simp [intOf]; omega⟩
                  · have hjp' : decide ((j : Int) < (p : Int)) = false := decide_eq_false hjp
                    have hjn : ¬ j < p := by omega
                    clear hjp
                    go_wp2
                    exact ⟨⟨F, P, k + 1, rfl, rfl, rfl, by omega, hsum, HM', HKE, HFP, hG, hB⟩, by simp [intOf]; omega⟩
            · have hOF : O = F := by
                rw [HK.out]
                cases F with
                | false => rfl
                | true =>
                  have hkn : n ≤ k := by
                    by_cases h : k < n
                    · exact absurd ⟨h, rfl⟩ hl
                    · omega
                  rw [List.drop_eq_nil_of_le (by rw [HN.out]; omega)]
                  have := HF0.out rfl
                  simp [this]
              have hcases : (F = false) ∨ decide ((k : Int) < (n : Int)) = false := by
                cases F with
                | false => exact .inl rfl
                | true => exact .inr (decide_eq_false (by intro h; exact hl ⟨by omega, rfl⟩))
              have hC := HCO.out
              rw [hOF] at hC
              clear hl HK HCO HOK' HF0
              cases F with
              | false =>
                have hC' : C = 120 := hC
                subst hC'
                clear hC
                go_wp2
                all_goals go_ret
                all_goals exact ⟨rfl, hB⟩
              | true =>
                have hC' : C = 0 := hC
                subst hC'
                clear hC
                have hkn : decide ((k : Int) < (n : Int)) = false := by
                  rcases hcases with h | h
                  · cases h
                  · exact h
                have hkn2 : ¬ k < n := by have := of_decide_eq_false hkn; omega
                go_wp2
                go_ret
                exact ⟨rfl, hB⟩
        · have hkq2 : decide ((k : Int) < (q : Int)) = false := decide_eq_false hkq
          have hkqn : ¬ k < q := by omega
          have HK2 := Lib.hid (HEX.out F rfl)
          clear HEX HF hkq HAA
          go_wp2
          go_loopw [4, 6, 7] (fun f y x wr => ∃ (F : Bool) (M k : Nat), f = .bool F ∧ y = .int .i64 (M : Int) ∧ x = .int .i64 (k : Int) ∧ k ≤ n ∧ M ≤ 4000000 ∧ Hid (M = ((g.states.take k).map List.length).sum) ∧ Hid (O = (F && (g.states.drop k).all (fun l => l.all (mvOk n T)) && decide (M + ((g.states.drop k).map List.length).sum ≤ 131072))) ∧ Hid (F = true → M ≤ 131072) ∧ Holds wr w.heap.size 25 [.int .i64 (T : Int), .slice a1 q cap1, .slice a2 n cap2] ∧ Below w.heap.size w wr) (fun _ _ x _ => (n + 10 - intOf x).toNat)
          case atStart => exact ⟨_, 0, 0, rfl, rfl, rfl, Nat.zero_le _, by omega, (show _ = _ by simp), HK2, (fun _ => by omega), hG0, hB0⟩
          case round =>
            clear HK2 hG0 hB0 x0 x1 x2
            obtain ⟨F, M, k, rfl, rfl, rfl, hk, hMb, HM, HK, HF0, hG, hB⟩ := hrel
            have x0 := hG.cell 0
            have x2 := hG.cell 2
            simp at x0 x2
            by_cases hl : k < n ∧ F = true
            · obtain ⟨hl, rfl⟩ := hl
              have hl' : (k : Int) < (n : Int) := by omega
              have hn := HN.out
              obtain ⟨ys, hy⟩ : ∃ y, g.states[k]? = some y := ⟨_, List.getElem?_eq_getElem (by omega)⟩
              obtain ⟨gb, o, u, rfl, hgb, hcell0, hu⟩ := HBBB.out.at (k := k) (by omega)
              have hcell := (cell_below hB hgb _).trans hcell0
              have hyk : g.states[k]'(by omega) = ys := (List.getElem?_eq_some_iff.1 hy).2
              rw [hyk] at hu
              obtain ⟨a3, cap3, rfl, hc3, hm3⟩ := hu.form
              obtain ⟨p, hp⟩ : ∃ p, ys.length = p := ⟨_, rfl⟩
              rw [hp] at hu hc3 hcell hcell0
              have hta := take_at hy
              have hda := drop_at hy
              have hsum : M + p ≤ 4000000 := by
                have h1 := sum_take_le g.states (k + 1)
                rw [hta, List.map_append, List.sum_append, ← HM.out] at h1
                simp [hp] at h1
                have := HB.out
                omega
              have HM' : Hid (M + p = ((g.states.take (k + 1)).map List.length).sum) := by
                show _ = _
                rw [hta, List.map_append, List.sum_append, ← HM.out]
                simp [hp]
              have HK0 : Hid (O = (decide (M + p ≤ 131072) && (ys.drop 0).all (mvOk n T) && (g.states.drop (k + 1)).all (fun l => l.all (mvOk n T)) && decide (M + p + ((g.states.drop (k + 1)).map List.length).sum ≤ 131072))) := by
                show _ = _
                rw [HK.out, hda, List.all_cons, List.drop_zero, List.map_cons, List.sum_cons, hp, Bool.true_and, ← Nat.add_assoc]
                by_cases hbig : M + p ≤ 131072
                · rw [decide_eq_true hbig, Bool.true_and]
                · rw [decide_eq_false hbig, decide_eq_false (by omega)]; simp
              have HU := Lib.hid hu
              have HPL := Lib.hid hp
              have HCE := Lib.hid hcell0
              obtain ⟨P, hP⟩ : ∃ P, M + p = P := ⟨_, rfl⟩
              have hPI : (M : Int) + (p : Int) = (P : Int) := by omega
              rw [hP] at HM' HK0 hsum
              obtain ⟨D, hD⟩ : ∃ D, decide (P ≤ 131072) = D := ⟨_, rfl⟩
              have hDI : decide ((P : Int) ≤ 131072) = D := by rw [← hD, decide_eq_decide]; omega
              rw [hD] at HK0
              have HD := Lib.hid (show D = true → P ≤ 131072 from fun h => of_decide_eq_true (hD.trans h))
              clear hyk hn hta hda hu hp hy hcell0 HK HM hP hD HF0
              go_wp2
              go_loopw [4, 8] (fun f x wr => ∃ (F : Bool) (j : Nat), f = .bool F ∧ x = .int .i64 (j : Int) ∧ j ≤ p ∧ Hid (O = (F && (ys.drop j).all (mvOk n T) && (g.states.drop (k + 1)).all (fun l => l.all (mvOk n T)) && decide (P + ((g.states.drop (k + 1)).map List.length).sum ≤ 131072))) ∧ Hid (F = true → P ≤ 131072) ∧ Holds wr w.heap.size 25 [.int .i64 (T : Int), .slice a1 q cap1, .slice (some ⟨gb, o, none⟩) n cap2] ∧ Below w.heap.size w wr) (fun _ x _ => (p + 10 - intOf x).toNat)
              case atStart => exact ⟨_, 0, rfl, rfl, Nat.zero_le _, HK0, HD, hG, hB⟩
              case round =>
                clear HK0 hG hB hcell x0 x2 HD
                obtain ⟨F, j, rfl, rfl, hj, HK, HFP, hG, hB⟩ := hrel
                have x0 := hG.cell 0
                have x2 := hG.cell 2
                simp at x0 x2
                have hcell := (cell_below hB hgb _).trans HCE.out
                by_cases hjl : j < p ∧ F = true
                · obtain ⟨hjl, rfl⟩ := hjl
                  have hjl' : (j : Int) < (p : Int) := by omega
                  have hp := HPL.out
                  obtain ⟨m, hmq⟩ : ∃ m, ys[j]? = some m := ⟨_, List.getElem?_eq_getElem (by omega)⟩
                  obtain ⟨g3, o3, rfl, hg3, e0, e1, e2, e3⟩ := (HU.out.below hB).at (k := j) (by omega)
                  have hmk : ys[j]'(by omega) = m := (List.getElem?_eq_some_iff.1 hmq).2
                  rw [hmk] at e0 e1 e2 e3
                  obtain ⟨w1, w2, w3, w4⟩ := HU.out.2 m (List.mem_of_getElem? hmq)
                  have hdm := drop_at hmq
                  have a1' := bits_and_u64_nat m.yes m.no w1 w2
                  have a2' : (m.sets : Int) / 2 ^ T = ((m.sets / 2 ^ T : Nat) : Int) := by norm_cast
                  have hglt := hG.lt
                  have hBm := hB.alloc hB.size (.cells #[.int .u64 (m.yes : Int), .int .u64 (m.no : Int), .int .i64 m.to, .int .u64 (m.sets : Int)] 53)
                  have hGm := hG.alloc (.cells #[.int .u64 (m.yes : Int), .int .u64 (m.no : Int), .int .i64 m.to, .int .u64 (m.sets : Int)] 53)
                  have HK1 : Hid (O = (((m.yes &&& m.no == 0) && (decide (0 ≤ m.to) && decide (m.to < (n : Int))) && (m.sets / 2 ^ T == 0)) && (ys.drop (j + 1)).all (mvOk n T) && (g.states.drop (k + 1)).all (fun l => l.all (mvOk n T)) && decide (P + ((g.states.drop (k + 1)).map List.length).sum ≤ 131072))) := by
                    show _ = _
                    rw [HK.out, hdm, List.all_cons, mvOk, inR, Bool.true_and]
                  clear hmk hp hmq hdm HK
                  generalize m.yes &&& m.no = c at a1' HK1
                  generalize m.sets / 2 ^ T = d at a2' HK1
                  have fin : ∀ F' : Bool, F' = ((c == 0) && (decide (0 ≤ m.to) && decide (m.to < (n : Int))) && (d == 0)) → Hid (O = (F' && (ys.drop (j + 1)).all (mvOk n T) && (g.states.drop (k + 1)).all (fun l => l.all (mvOk n T)) && decide (P + ((g.states.drop (k + 1)).map List.length).sum ≤ 131072))) := by
                    intro F' h
                    show _ = _
                    rw [h]; exact HK1.out
                  have FIN := Lib.hid fin
                  clear fin HK1
                  by_cases hc : c = 0
                  · have hc' : ((c : Int) == 0) = true := by simp [hc]
                    by_cases hr0 : 0 ≤ m.to
                    · have hr0' : decide (0 ≤ m.to) = true := decide_eq_true hr0
                      by_cases hr1 : m.to < (n : Int)
                      · have hr1' : decide (m.to < (n : Int)) = true := decide_eq_true hr1
                        by_cases hd : d = 0
                        · have hd' : ((d : Int) == 0) = true := by simp [hd]
                          have HF := FIN.out true (by rw [hc, hd, hr0', hr1']; rfl)
                          clear FIN
                          go_wp2
                          exact ⟨⟨true, j + 1, rfl, rfl, by omega, HF, HFP, hGm, hBm⟩, by simp [intOf]; omega⟩
                        · have hd' : ((d : Int) == 0) = false := by simp; omega
                          have HF := FIN.out false (by rw [hr0', hr1']; simp [hd])
                          clear FIN
                          go_wp2
                          exact ⟨⟨false, j + 1, rfl, rfl, by omega, HF, (fun h => by cases h), hGm, hBm⟩, by simp [intOf]; omega⟩
                      · have hr1' : decide (m.to < (n : Int)) = false := decide_eq_false hr1
                        have HF := FIN.out false (by rw [hr1']; simp)
                        clear FIN
                        go_wp2
                        exact ⟨⟨false, j + 1, rfl, rfl, by omega, HF, (fun h => by cases h), hGm, hBm⟩, by simp [intOf]; omega⟩
                    · have hr0' : decide (0 ≤ m.to) = false := decide_eq_false hr0
                      have HF := FIN.out false (by rw [hr0']; simp)
                      clear FIN
                      go_wp2
                      exact ⟨⟨false, j + 1, rfl, rfl, by omega, HF, (fun h => by cases h), hGm, hBm⟩, by simp [intOf]; omega⟩
                  · have hc' : ((c : Int) == 0) = false := by simp; omega
                    have HF := FIN.out false (by simp [hc])
                    clear FIN
                    go_wp2
                    exact ⟨⟨false, j + 1, rfl, rfl, by omega, HF, (fun h => by cases h), hGm, hBm⟩, by simp [intOf]; omega⟩
                · have HKE : Hid (O = (F && (g.states.drop (k + 1)).all (fun l => l.all (mvOk n T)) && decide (P + ((g.states.drop (k + 1)).map List.length).sum ≤ 131072))) := by
                    show _ = _
                    rw [HK.out]
                    cases F with
                    | false => rfl
                    | true =>
                      have h0 : ¬ j < p := fun h => hjl ⟨h, rfl⟩
                      rw [List.drop_eq_nil_of_le (by rw [HPL.out]; omega)]
                      rfl
                  have HF2 : Hid (j < p → F = false) := fun h => by
                    cases F with
                    | false => rfl
                    | true => exact absurd ⟨h, rfl⟩ hjl
                  clear hjl HK
                  by_cases hjp : (j : Int) < (p : Int)
                  · obtain rfl := HF2.out (by omega)
                    go_wp2
                    exact ⟨⟨false, P, k + 1, rfl, rfl, rfl, by omega, hsum, HM', HKE, (fun h => by cases h), hG, hB⟩, by simp [intOf]; omega⟩
                  · have hjp' : decide ((j : Int) < (p : Int)) = false := decide_eq_false hjp
                    have hjn : ¬ j < p := by omega
                    clear hjp
                    go_wp2
                    exact ⟨⟨F, P, k + 1, rfl, rfl, rfl, by omega, hsum, HM', HKE, HFP, hG, hB⟩, by simp [intOf]; omega⟩
            · have hOF : O = F := by
                rw [HK.out]
                cases F with
                | false => rfl
                | true =>
                  have hkn : n ≤ k := by
                    by_cases h : k < n
                    · exact absurd ⟨h, rfl⟩ hl
                    · omega
                  rw [List.drop_eq_nil_of_le (by rw [HN.out]; omega)]
                  have := HF0.out rfl
                  simp [this]
              have hcases : (F = false) ∨ decide ((k : Int) < (n : Int)) = false := by
                cases F with
                | false => exact .inl rfl
                | true => exact .inr (decide_eq_false (by intro h; exact hl ⟨by omega, rfl⟩))
              have hC := HCO.out
              rw [hOF] at hC
              clear hl HK HCO HOK' HF0
              cases F with
              | false =>
                have hC' : C = 120 := hC
                subst hC'
                clear hC
                go_wp2
                all_goals go_ret
                all_goals exact ⟨rfl, hB⟩
              | true =>
                have hC' : C = 0 := hC
                subst hC'
                clear hC
                have hkn : decide ((k : Int) < (n : Int)) = false := by
                  rcases hcases with h | h
                  · cases h
                  · exact h
                have hkn2 : ¬ k < n := by have := of_decide_eq_false hkn; omega
                go_wp2
                go_ret
                exact ⟨rfl, hB⟩
end Go.Proofs.YtelanndleinabaaDoor
