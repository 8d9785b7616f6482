/- The walk of sextantlaw02.LexTokens. -/
import Derived.Test.YtndcbbhfhcjadaaDoorAwake
namespace Go.Proofs.YtndcbbhfhcjadaaDoor
open Go.RowKit
set_option linter.unusedVariables false

/-- What the laws ask of the world that they begin in. -/
structure Sound (w : World) : Prop where
  one : 1 < w.heap.size
  len : ∃ m : Int, w.cell? ⟨1, 0, none⟩ = some (.int .i64 m)
  tab : Lib.TabIs Tryd.prog w "strings.asciiSpace" .u8 Lib.asciiSpaceTab
theorem Sound.below {w w' : World} (h : Sound w) (hb : Below w.heap.size w w') : Sound w' :=
  ⟨Nat.lt_of_lt_of_le h.one hb.size, h.len.imp fun _ hm => (Holds.same (hb.block 1 h.one) 0).trans hm, tab_same h.tab (hb.block 0 (Nat.lt_trans Nat.zero_lt_one h.one))⟩
theorem Sound.awake {w : World} (h : Sound w) : Calls Tryd.prog 9 #[] w fun e w' => e = .returned (.bool true) ∧ Below w.heap.size w w' := by
  obtain ⟨m, hm⟩ := h.len
  exact lawAwake m w hm h.one h.tab
theorem Sound.tokens {w : World} (h : Sound w) (s : ByteArray) : Calls Tryd.prog 10 #[.string s] w (TokensPost 33 (tokensOf s) w) := by
  obtain ⟨m, hm⟩ := h.len
  exact lexTokens s m w hm h.one h.tab

theorem below_own_drew {w : World} {base : Nat} {e : TypeId} {size n : Nat} {v : Value} {xs : List Value} (h : w.ownsRow base e size v n xs) (q : Nat) : (w.drewN q).ownsRow base e size v n xs := h

set_option maxHeartbeats 4000000 in
set_option maxRecDepth 100000 in
theorem lawTokens (s : ByteArray) (w : World) (hw : Sound w) : Calls Tryd.prog 3 #[.string s] w fun e w' => e = .returned (.bool true) ∧ Below w.heap.size w w' := by
  obtain ⟨R, hR⟩ : ∃ R, R = tokensOf s := ⟨_, rfl⟩
  have HR := Lib.hid hR
  clear hR
  go_enter Tryd.func3, Tryd.ntmps3
  go_wp2_with (fail)
  refine (hw.awake).mono ?_
  rintro e w1 ⟨rfl, hb1⟩
  have hw1 := hw.below hb1
  go_wp2_with (fail)
  refine (hw1.tokens s).mono ?_
  rintro e w2 ⟨hb2, hp⟩
  rw [← HR.out] at hp
  have hbb2 := hb1.trans (hb2.mono hb1.size)
  cases R with
  | bad c a =>
    obtain ⟨hc, rfl⟩ := hp
    have hbb3 := hbb2.alloc hbb2.size (.cells #[.int .i64 (c : Nat), .int .i64 (a : Nat)] 26)
    unfold mish
    go_wp2_with (fail)
    refine (refTokens s _).mono ?_
    rintro e w3 ⟨hb3, hp⟩
    rw [← HR.out] at hp
    obtain ⟨_, rfl⟩ := hp
    have hk := ((Holds.new w2 26 #[.int .i64 (c : Nat), .int .i64 (a : Nat)]).belowAll hb3).alloc (.cells #[.int .i64 (c : Nat), .int .i64 (a : Nat)] 26)
    have hbb4 := (hbb3.trans (hb3.mono hbb3.size)).alloc (hbb3.trans (hb3.mono hbb3.size)).size (.cells #[.int .i64 (c : Nat), .int .i64 (a : Nat)] 26)
    have d0 := hk.cell 0
    have d1 := hk.cell 1
    simp at d0 d1
    unfold mish
    go_wp2
    go_loopw [8] (fun n wr => n = .int .i64 0 ∧ Below w.heap.size w wr) (fun _ _ => 0)
    case atStart => exact ⟨rfl, hbb4⟩
    case round =>
      obtain ⟨rfl, hB⟩ := hrel
      go_wp2
      go_ret
      exact ⟨rfl, hB⟩
  | ok ts =>
    obtain ⟨v1, rfl, ho1⟩ := hp
    obtain ⟨a1, cap1, rfl, hc1, hm1⟩ := owns_form ho1
    have hbb3 := hbb2.alloc hbb2.size (.cells #[.int .i64 0, .int .i64 0] 26)
    have ho1' := ho1.alloc (.cells #[.int .i64 0, .int .i64 0] 26)
    unfold mish
    go_wp2_with (fail)
    refine (refTokens s _).mono ?_
    rintro e w3 ⟨hb3, hp⟩
    rw [← HR.out] at hp
    obtain ⟨v2, rfl, ho2⟩ := hp
    obtain ⟨a2, cap2, rfl, hc2, hm2⟩ := owns_form ho2
    have hk := ((Holds.new w2 26 #[.int .i64 0, .int .i64 0]).belowAll hb3).alloc (.cells #[.int .i64 0, .int .i64 0] 26)
    have hbb4 := (hbb3.trans (hb3.mono hbb3.size)).alloc (hbb3.trans (hb3.mono hbb3.size)).size (.cells #[.int .i64 0, .int .i64 0] 26)
    have ho1'' := ((Fr.of_below hb3 (fun _ => False)).owns ho1' (fun _ _ h => h)).alloc (.cells #[.int .i64 0, .int .i64 0] 26)
    have ho2'' := ho2.alloc (.cells #[.int .i64 0, .int .i64 0] 26)
    have d0 := hk.cell 0
    have d1 := hk.cell 1
    simp at d0 d1
    obtain ⟨n, hn⟩ : ∃ n, ts.length = n := ⟨_, rfl⟩
    rw [hn] at ho1'' ho2'' hc1 hc2 ⊢
    clear ho1 ho1' ho2
    have HN := Lib.hid hn
    clear hn
    have hmx : maxLen = 9223372036854775807 := rfl
    rw [hmx] at hm1 hm2
    clear hmx
    unfold mish
    go_wp2
    generalize w3.alloc (.cells #[.int .i64 0, .int .i64 0] 26) = W at ho1'' ho2'' hbb4 ⊢
    go_loopw [8] (fun x wr => ∃ k : Nat, x = .int .i64 (k : Int) ∧ k ≤ n ∧ wr.ownsRow w1.heap.size 33 4 (.slice a1 n cap1) n (flatT ts) ∧ (∃ b, wr.ownsRow b 34 4 (.slice a2 n cap2) n (flatT ts)) ∧ Below w.heap.size w wr) (fun x _ => (n + 10 - intOf x).toNat)
    case atStart => exact ⟨0, rfl, Nat.zero_le _, ho1'', ⟨_, ho2''⟩, hbb4⟩
    case round =>
      clear d0 d1 ho1'' ho2'' hbb4
      obtain ⟨k, rfl, hk, h1, ⟨b, h2⟩, hB⟩ := hrel
      by_cases hl : k < n
      · obtain ⟨g1, c1', hv1, -, -, -, -, q1, -⟩ := owns_some h1 (by omega)
        obtain ⟨g2, c2', hv2, -, -, -, -, q2, -⟩ := owns_some h2 (by omega)
        injection hv1 with hv1 z1 z2
        injection hv2 with hv2 z3 z4
        clear z1 z2 z3 z4
        subst hv1 hv2
        obtain ⟨x, hx⟩ : ∃ x : Tk, ts[k]? = some x := ⟨_, List.getElem?_eq_getElem (by rw [HN.out]; exact hl)⟩
        obtain ⟨f0, f1, f2, f3⟩ := flatT_at ts k (by rw [HN.out]; exact hl)
        have e0 := (q1 (k * 4) (by omega)).trans f0
        have e1 := (q1 (k * 4 + 1) (by omega)).trans f1
        have e2 := (q1 (k * 4 + 2) (by omega)).trans f2
        have e3 := (q1 (k * 4 + 3) (by omega)).trans f3
        have g0 := (q2 (k * 4) (by omega)).trans f0
        have g1 := (q2 (k * 4 + 1) (by omega)).trans f1
        have g2 := (q2 (k * 4 + 2) (by omega)).trans f2
        have g3 := (q2 (k * 4 + 3) (by omega)).trans f3
        clear f0 f1 f2 f3 q1 q2
        have hkl : (k : Int) < (n : Int) := by omega
        generalize ts[k]'(by rw [HN.out]; exact hl) = y at e0 e1 e2 e3 g0 g1 g2 g3
        go_wp2
        go_quiet (fail)
        go_wp2
        exact ⟨⟨k + 1, rfl, by omega, below_own_drew h1 nq, ⟨b, below_own_drew h2 nq⟩, below_drewN' hB nq⟩, by simp [intOf]; omega⟩
      · have hl' : decide ((k : Int) < (n : Int)) = false := by simp; omega
        go_wp2
        go_ret
        exact ⟨rfl, hB⟩
end Go.Proofs.YtndcbbhfhcjadaaDoor
