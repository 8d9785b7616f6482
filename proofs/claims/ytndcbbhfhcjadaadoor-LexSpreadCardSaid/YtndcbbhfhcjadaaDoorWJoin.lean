/- The walk of sextantlaw02.LexJoins. -/
import Derived.Test.YtndcbbhfhcjadaaDoorWRem
namespace Go.Proofs.YtndcbbhfhcjadaaDoor
open Go.RowKit
set_option linter.unusedVariables false

theorem Sound.tokens_any {w : World} (h : Sound w) (s : ByteArray) : Calls Tryd.prog 10 #[.string s] w fun e w' => ∃ (v : Value) (c x : Nat), e = .returned (.tuple #[v, .agg #[.int .i64 (c : Int), .int .i64 (x : Int)]]) ∧ Below w.heap.size w w' := by
  refine (h.tokens s).mono ?_
  rintro e w' ⟨hb, hp⟩
  cases hR : tokensOf s with
  | bad c x => rw [hR] at hp; exact ⟨_, c, x, hp.2, hb⟩
  | ok ts =>
    rw [hR] at hp
    obtain ⟨v, rfl, _⟩ := hp
    exact ⟨v, 0, 0, rfl, hb⟩

set_option maxHeartbeats 8000000 in
set_option maxRecDepth 1000000 in
theorem lawJoins (a b : ByteArray) (ha : a.size ≤ 1048576) (hb : b.size ≤ 1048576) (w : World) (hw : Sound w) :
    Calls Tryd.prog 5 #[.string a, .string b] w fun e w' => e = .returned (.bool true) ∧ Below w.heap.size w w' := by
  obtain ⟨R1, h1⟩ : ∃ R, tokensOf a = R := ⟨_, rfl⟩
  obtain ⟨R2, h2⟩ : ∃ R, tokensOf b = R := ⟨_, rfl⟩
  have H1 := Lib.hid h1
  have H2 := Lib.hid h2
  clear h1 h2
  go_enter Tryd.func5, Tryd.ntmps5
  go_wp2_with (fail)
  refine (hw.awake).mono ?_
  rintro e w1 ⟨rfl, hb1⟩
  go_wp2_with (fail)
  refine ((hw.below hb1).tokens a).mono ?_
  rintro e w2 ⟨hb2, hp⟩
  rw [H1.out] at hp
  have hbb2 := hb1.trans (hb2.mono hb1.size)
  cases R1 with
  | bad c x =>
    obtain ⟨hc, rfl⟩ := hp
    have hbb3 := hbb2.alloc hbb2.size (.cells #[.int .i64 (c : Nat), .int .i64 (x : Nat)] 26)
    have hw3 := hw.below hbb3
    unfold mish
    go_wp2_with (fail)
    refine (hw3.tokens_any _).mono ?_
    rintro e w3 ⟨v3, c3, x3, rfl, hb3⟩
    have hbb3' := hbb3.trans (hb3.mono hbb3.size)
    have hbb4 := hbb3'.alloc hbb3'.size (.cells #[.int .i64 (c3 : Nat), .int .i64 (x3 : Nat)] 26)
    have hw4 := hw.below hbb4
    have hk := ((Holds.new w2 26 #[.int .i64 (c : Nat), .int .i64 (x : Nat)]).belowAll hb3).alloc (.cells #[.int .i64 (c3 : Nat), .int .i64 (x3 : Nat)] 26)
    go_wp2_with (fail)
    refine (hw4.tokens_any _).mono ?_
    rintro e w4 ⟨v4, c4, x4, rfl, hb4⟩
    have hbb4' := hbb4.trans (hb4.mono hbb4.size)
    have hbb5 := hbb4'.alloc hbb4'.size (.cells #[.int .i64 (c4 : Nat), .int .i64 (x4 : Nat)] 26)
    have hk5 := (hk.belowAll hb4).alloc (.cells #[.int .i64 (c4 : Nat), .int .i64 (x4 : Nat)] 26)
    have d0 := hk5.cell 0
    simp at d0
    have hc' : ((c : Int) != 0) = true := by simp; omega
    go_wp2
    go_ret
    exact ⟨rfl, hbb5⟩
  | ok xs =>
    obtain ⟨v1, rfl, ho1⟩ := hp
    have r1 : RowT w2 v1 xs := ⟨_, ho1⟩
    clear ho1
    obtain ⟨a1, cap1, rfl, hc1, hm1⟩ := r1.form
    have hbb3 := hbb2.alloc hbb2.size (.cells #[.int .i64 0, .int .i64 0] 26)
    have hw3 := hw.below hbb3
    have r1' := r1.alloc (.cells #[.int .i64 0, .int .i64 0] 26)
    unfold mish
    go_wp2_with (fail)
    refine (hw3.tokens _).mono ?_
    rintro e w3 ⟨hb3, hp⟩
    rw [H2.out] at hp
    have hbb3' := hbb3.trans (hb3.mono hbb3.size)
    cases R2 with
    | bad c x =>
      obtain ⟨hc, rfl⟩ := hp
      have hbb4 := hbb3'.alloc hbb3'.size (.cells #[.int .i64 (c : Nat), .int .i64 (x : Nat)] 26)
      have hw4 := hw.below hbb4
      have hk := ((Holds.new w2 26 #[.int .i64 0, .int .i64 0]).belowAll hb3).alloc (.cells #[.int .i64 (c : Nat), .int .i64 (x : Nat)] 26)
      have hl := Holds.new w3 26 #[.int .i64 (c : Nat), .int .i64 (x : Nat)]
      unfold mish
      go_wp2_with (fail)
      refine (hw4.tokens_any _).mono ?_
      rintro e w4 ⟨v4, c4, x4, rfl, hb4⟩
      have hbb4' := hbb4.trans (hb4.mono hbb4.size)
      have hbb5 := hbb4'.alloc hbb4'.size (.cells #[.int .i64 (c4 : Nat), .int .i64 (x4 : Nat)] 26)
      have hk5 := (hk.belowAll hb4).alloc (.cells #[.int .i64 (c4 : Nat), .int .i64 (x4 : Nat)] 26)
      have hl5 := (hl.belowAll hb4).alloc (.cells #[.int .i64 (c4 : Nat), .int .i64 (x4 : Nat)] 26)
      have d0 := hk5.cell 0
      have l0 := hl5.cell 0
      simp at d0 l0
      have hc' : ((c : Int) != 0) = true := by simp; omega
      go_wp2
      go_ret
      exact ⟨rfl, hbb5⟩
    | ok ys =>
      obtain ⟨v2, rfl, ho2⟩ := hp
      have r2 : RowT w3 v2 ys := ⟨_, ho2⟩
      clear ho2
      obtain ⟨a2, cap2, rfl, hc2, hm2⟩ := r2.form
      have hbb4 := hbb3'.alloc hbb3'.size (.cells #[.int .i64 0, .int .i64 0] 26)
      have hw4 := hw.below hbb4
      have hk := ((Holds.new w2 26 #[.int .i64 0, .int .i64 0]).belowAll hb3).alloc (.cells #[.int .i64 0, .int .i64 0] 26)
      have hl := Holds.new w3 26 #[.int .i64 0, .int .i64 0]
      have r1'' := (r1'.below hb3).alloc (.cells #[.int .i64 0, .int .i64 0] 26)
      have r2' := r2.alloc (.cells #[.int .i64 0, .int .i64 0] 26)
      unfold mish
      by_cases hbig : 65536 < a.size + b.size + 1
      · have hbig' : (65536 : Int) < (a.size : Int) + (b.size : Int) + 1 := by omega
        go_wp2_with (fail)
        refine (hw4.tokens_any _).mono ?_
        rintro e w4 ⟨v4, c4, x4, rfl, hb4⟩
        have hbb4' := hbb4.trans (hb4.mono hbb4.size)
        have hbb5 := hbb4'.alloc hbb4'.size (.cells #[.int .i64 (c4 : Nat), .int .i64 (x4 : Nat)] 26)
        have hk5 := (hk.belowAll hb4).alloc (.cells #[.int .i64 (c4 : Nat), .int .i64 (x4 : Nat)] 26)
        have hl5 := (hl.belowAll hb4).alloc (.cells #[.int .i64 (c4 : Nat), .int .i64 (x4 : Nat)] 26)
        have d0 := hk5.cell 0
        have l0 := hl5.cell 0
        simp at d0 l0
        go_wp2
        go_ret
        exact ⟨rfl, hbb5⟩
      · have hbig' : decide ((65536 : Int) < (a.size : Int) + (b.size : Int) + 1) = false := decide_eq_false (by omega)
        have hs3 : ((a ++ (⟨#[10]⟩ : ByteArray)) ++ b).size = a.size + b.size + 1 := by
          simp only [ByteArray.size_append]
          show a.size + 1 + b.size = _
          omega
        have e1 : tk 0 a.data.toList = .ok xs := by
          have := H1.out
          unfold tokensOf at this
          rwa [if_neg (by omega), rest_zero] at this
        have e2 : tk 0 b.data.toList = .ok ys := by
          have := H2.out
          unfold tokensOf at this
          rwa [if_neg (by omega), rest_zero] at this
        have T3 : Hid (tokensOf ((a ++ (⟨#[10]⟩ : ByteArray)) ++ b) = .ok (xs ++ ys.map (shT (a.size + 1)))) := by
          show _ = _
          unfold tokensOf
          rw [if_neg (by omega), rest_zero]
          have hd : ((a ++ (⟨#[10]⟩ : ByteArray)) ++ b).data.toList = a.data.toList ++ 10 :: b.data.toList := by simp
          rw [hd, tk_joins e1 e2]
          simp
        have hpx : Hid (∀ t ∈ xs, t.at_ ≤ 65536) := fun t ht => by
          have := tk_place e1 t ht
          simp at this; omega
        have hpy : Hid (∀ t ∈ ys, t.at_ ≤ 65536) := fun t ht => by
          have := tk_place e2 t ht
          simp at this; omega
        clear e1 e2 hs3
        go_wp2_with (fail)
        refine (hw4.tokens _).mono ?_
        rintro e w4 ⟨hb4, hp⟩
        rw [T3.out] at hp
        obtain ⟨v3, rfl, ho3⟩ := hp
        have r3 : RowT w4 v3 (xs ++ ys.map (shT (a.size + 1))) := ⟨_, ho3⟩
        clear ho3
        obtain ⟨a3, cap3, rfl, hc3, hm3⟩ := r3.form
        have hbb4' := hbb4.trans (hb4.mono hbb4.size)
        have hbb5 := hbb4'.alloc hbb4'.size (.cells #[.int .i64 0, .int .i64 0] 26)
        have hk5 := (hk.belowAll hb4).alloc (.cells #[.int .i64 0, .int .i64 0] 26)
        have hl5 := (hl.belowAll hb4).alloc (.cells #[.int .i64 0, .int .i64 0] 26)
        have d0 := hk5.cell 0
        have l0 := hl5.cell 0
        simp at d0 l0
        have q1 := (r1''.below hb4).alloc (.cells #[.int .i64 0, .int .i64 0] 26)
        have q2 := (r2'.below hb4).alloc (.cells #[.int .i64 0, .int .i64 0] 26)
        have q3 := r3.alloc (.cells #[.int .i64 0, .int .i64 0] 26)
        clear r1 r1' r1'' r2 r2' r3 T3
        obtain ⟨n1, hn1⟩ : ∃ n, xs.length = n := ⟨_, rfl⟩
        obtain ⟨n2, hn2⟩ : ∃ n, ys.length = n := ⟨_, rfl⟩
        have hlen : (xs ++ ys.map (shT (a.size + 1))).length = n1 + n2 := by rw [List.length_append, List.length_map, hn1, hn2]
        rw [hn1] at q1 hc1 ⊢
        rw [hn2] at q2 hc2 ⊢
        rw [hlen] at q3 hc3 ⊢
        have HN1 := Lib.hid hn1
        have HN2 := Lib.hid hn2
        have HLEN := Lib.hid hlen
        clear hn1 hn2 hlen
        unfold mish
        have hadd : ((n1 + n2 : Nat) : Int) = (n1 : Int) + (n2 : Int) := by omega
        go_wp2
        go_loopw [12] (fun x wr => ∃ k : Nat, x = .int .i64 (k : Int) ∧ k ≤ n1 + n2 ∧ RowT wr (.slice a1 n1 cap1) xs ∧ RowT wr (.slice a2 n2 cap2) ys ∧ RowT wr (.slice a3 (n1 + n2) cap3) (xs ++ ys.map (shT (a.size + 1))) ∧ Below w.heap.size w wr) (fun x _ => (n1 + n2 + 10 - intOf x).toNat)
        case atStart => exact ⟨0, rfl, Nat.zero_le _, q1, q2, q3, hbb5⟩
        case round =>
          clear q1 q2 q3 hbb5 d0 l0
          obtain ⟨k, rfl, hk, q1, q2, q3, hB⟩ := hrel
          by_cases hkn : k < n1 + n2
          · have hkl : (k : Int) < (n1 : Int) + (n2 : Int) := by omega
            obtain ⟨g3, rfl, hgl3, f0, f1, f2, f3⟩ := q3.at (k := k) (by rw [HLEN.out]; exact hkn)
            by_cases hk1 : k < n1
            · have hk1' : (k : Int) < (n1 : Int) := by omega
              have hn := HN1.out
              obtain ⟨g1, rfl, hgl1, e0, e1, e2, e3⟩ := q1.at (k := k) (by omega)
              rw [List.getElem_append_left (by omega)] at f0 f1 f2 f3
              have hpl := hpx.out (xs[k]'(by omega)) (List.getElem_mem _)
              generalize xs[k]'(by omega) = y at e0 e1 e2 e3 f0 f1 f2 f3 hpl
              have hyb : (y.at_ : Int) ≤ 65536 := by omega
              clear hn
              go_wp2
              go_quiet (fail)
              go_wp2
              exact ⟨⟨k + 1, rfl, by omega, (q1.alloc _).drewN nq, (q2.alloc _).drewN nq, (q3.alloc _).drewN nq, below_drewN' (hB.alloc hB.size _) nq⟩, by simp [intOf]; omega⟩
            · have hk1' : decide ((k : Int) < (n1 : Int)) = false := decide_eq_false (by omega)
              have hn := HN1.out
              have hn2 := HN2.out
              obtain ⟨j, hj⟩ : ∃ j, k = n1 + j := ⟨k - n1, by omega⟩
              have hj2 : j < n2 := by omega
              have hj1 : (k : Int) - (n1 : Int) = (j : Int) := by omega
              have hj3 : (j : Int) < (n2 : Int) := by omega
              obtain ⟨g2, rfl, hgl2, e0, e1, e2, e3⟩ := q2.at (k := j) (by omega)
              rw [List.getElem_append_right (by omega), List.getElem_map] at f0 f1 f2 f3
              have hix : k - xs.length = j := by omega
              simp only [hix] at f0 f1 f2 f3
              have hpl := hpy.out (ys[j]'(by omega)) (List.getElem_mem _)
              generalize ys[j]'(by omega) = y at e0 e1 e2 e3 f0 f1 f2 f3 hpl
              obtain ⟨z, hz⟩ : ∃ z, z = a.size + 1 + y.at_ := ⟨_, rfl⟩
              change _ = some (Value.int .i64 ((a.size + 1 + y.at_ : Nat) : Int)) at f3
              change _ = some (Value.int .i64 (y.kind : Int)) at f0
              change _ = some (Value.string ⟨y.text.toArray⟩) at f1
              change _ = some (Value.int .i64 (y.num : Int)) at f2
              rw [← hz] at f3
              have hzz : ((z : Int) != (y.at_ : Int) + ((a.size : Int) + 1)) = false := by
                have : (z : Int) = (y.at_ : Int) + ((a.size : Int) + 1) := by omega
                simp [this]
              have hyb : (y.at_ : Int) ≤ 65536 := by omega
              have hab : (a.size : Int) ≤ 65536 := by omega
              clear hn hn2 hz hpl hix hj
              go_wp2
              go_quiet (fail)
              go_wp2
              exact ⟨⟨k + 1, rfl, by omega, (q1.alloc _).drewN nq, (q2.alloc _).drewN nq, (q3.alloc _).drewN nq, below_drewN' (hB.alloc hB.size _) nq⟩, by simp [intOf]; omega⟩
          · have hl2 : decide ((k : Int) < (n1 : Int) + (n2 : Int)) = false := decide_eq_false (by omega)
            go_wp2
            go_ret
            exact ⟨rfl, hB⟩
end Go.Proofs.YtndcbbhfhcjadaaDoor
