/- The walk of sextantlaw02.LexSpread. (Printed by mkwspread.py.) -/
import Derived.Test.YtndcbbhfhcjadaaDoorWJoin
namespace Go.Proofs.YtndcbbhfhcjadaaDoor
open Go.RowKit
set_option linter.unusedVariables false

theorem size_data (s : ByteArray) : s.size = s.data.toList.length := by simp
theorem take_words {ts : List Tk} {k : Nat} (h : k < ts.length) : (ts.take (k + 1)).map (·.text) = (ts.take k).map (·.text) ++ [ts[k].text] := by
  rw [List.take_succ_eq_append_getElem h, List.map_append]; rfl

set_option maxHeartbeats 8000000 in
set_option maxRecDepth 1000000 in
theorem lawSpread (a : ByteArray) (w : World) (hw : Sound w) :
    Calls Tryd.prog 6 #[.string a] w fun e w' => e = .returned (.bool true) ∧ Below w.heap.size w w' := by
  obtain ⟨R1, h1⟩ : ∃ R, tokensOf a = R := ⟨_, rfl⟩
  have H1 := Lib.hid h1
  clear h1
  go_enter Tryd.func6, Tryd.ntmps6
  go_wp2_with (fail)
  refine (hw.awake).mono ?_
  rintro e w1 ⟨rfl, hb1⟩
  go_wp2_with (fail)
  refine ((hw.below hb1).tokens a).mono ?_
  rintro e w2 ⟨hb2, hp⟩
  rw [H1.out] at hp
  have hbb2 := hb1.trans (hb2.mono hb1.size)
  cases R1 with
  | bad c x =>
    obtain ⟨hc, rfl⟩ := hp
    have hbb3 := hbb2.alloc hbb2.size (.cells #[.int .i64 (c : Nat), .int .i64 (x : Nat)] 26)
    have hc' : ((c : Int) != 0) = true := by simp; omega
    unfold mish
    go_wp2
    go_ret
    exact ⟨rfl, hbb3⟩
  | ok ts =>
    obtain ⟨v1, rfl, ho1⟩ := hp
    have r1 : RowT w2 v1 ts := ⟨_, ho1⟩
    clear ho1
    obtain ⟨a1, cap1, rfl, hc1, hm1⟩ := r1.form
    have hbb3 := hbb2.alloc hbb2.size (.cells #[.int .i64 0, .int .i64 0] 26)
    have r1' := r1.alloc (.cells #[.int .i64 0, .int .i64 0] 26)
    have ha : a.size ≤ 65536 := by
      have := H1.out
      unfold tokensOf at this
      split at this
      · cases this
      · omega
    have e1 : tk 0 a.data.toList = .ok ts := by
      have := H1.out
      unfold tokensOf at this
      rwa [if_neg (by omega), rest_zero] at this
    have hsz : Hid (∀ t ∈ ts, t.kind ≠ 3 → t.text.length ≤ 65536) := fun t ht h3 => by
      have := tk_size e1 t ht h3
      simp at this; omega
    have E1 := Lib.hid e1
    clear e1
    obtain ⟨n, hn⟩ : ∃ n, ts.length = n := ⟨_, rfl⟩
    rw [hn] at r1' hc1 ⊢
    have HN := Lib.hid hn
    clear hn r1
    unfold mish
    by_cases h4 : 4000 < n
    · have h4' : (4000 : Int) < (n : Int) := by omega
      go_wp2
      go_ret
      exact ⟨rfl, hbb3⟩
    · have h4' : decide ((4000 : Int) < (n : Int)) = false := decide_eq_false (by omega)
      go_wp2
      go_loopw [6, 7] (fun v x wr => ∃ (k : Nat) (S : ByteArray), x = .int .i64 (k : Int) ∧ v = .string S ∧ k ≤ n ∧ Hid (S.data.toList = spread ((ts.take k).map (·.text))) ∧ S.size ≤ k * 65537 ∧ Hid (∀ t ∈ ts.take k, t.kind ≠ 3) ∧ RowT wr (.slice a1 n cap1) ts ∧ Below w.heap.size w wr) (fun _ x _ => (n + 10 - intOf x).toNat)
      case atStart => exact ⟨0, ⟨#[]⟩, rfl, rfl, Nat.zero_le _, (show _ = _ by simp [spread]), Nat.le_refl _, (fun t ht => by simp at ht), r1', hbb3⟩
      case round =>
        clear r1' hbb3
        obtain ⟨k, S, rfl, rfl, hk, HS, hSz, HK, q1, hB⟩ := hrel
        by_cases hkn : k < n
        · have hkl : (k : Int) < (n : Int) := by omega
          have hn := HN.out
          obtain ⟨g1, rfl, hgl1, e0, e1, e2, e3⟩ := q1.at (k := k) (by omega)
          have htw := take_words (ts := ts) (k := k) (by omega)
          have htk : ts.take (k + 1) = ts.take k ++ [ts[k]'(by omega)] := List.take_succ_eq_append_getElem (by omega)
          have hmem : ts[k]'(by omega) ∈ ts := List.getElem_mem _
          have hyl := hsz.out _ hmem
          generalize ts[k]'(by omega) = y at e0 e1 e2 e3 htw htk hyl
          by_cases h3 : y.kind = 3
          · have h3' : ((y.kind : Int) == 3) = true := by simp; omega
            clear hmem hyl htw htk hn
            go_wp2
            go_ret
            exact ⟨rfl, hB⟩
          · have h3' : ((y.kind : Int) == 3) = false := by simp; omega
            have hyl' := hyl h3
            have hys : (ByteArray.mk y.text.toArray).size ≤ 65536 := by show y.text.toArray.size ≤ _; simpa using hyl'
            have HT := Lib.hid htw
            have HTK := Lib.hid htk
            have HK' : Hid (∀ t ∈ ts.take (k + 1), t.kind ≠ 3) := fun t ht => by
              rw [htk] at ht
              rcases List.mem_append.1 ht with h | h
              · exact HK.out t h
              · rw [List.mem_singleton.1 h]; exact h3
            have hSb : S.size ≤ 262200000 := by
              have : k * 65537 ≤ 4000 * 65537 := Nat.mul_le_mul_right _ (by omega)
              omega
            have hkk : k * 65537 + 65537 = (k + 1) * 65537 := by omega
            clear hmem hyl htw htk hn h3
            by_cases hk0 : k = 0
            · subst hk0
              have hS0 : S.data.toList = [] := by rw [HS.out]; simp [spread]
              have hk0' : decide ((0 : Int) < ((0 : Nat) : Int)) = false := rfl
              have hfin : Hid ((S ++ ByteArray.mk y.text.toArray).data.toList = spread ((ts.take (0 + 1)).map (·.text))) := by
                show _ = _
                rw [HT.out]
                simp [spread, hS0]
              have hszf : (S ++ ByteArray.mk y.text.toArray).size ≤ (0 + 1) * 65537 := by
                rw [ByteArray.size_append]
                omega
              clear hS0
              go_wp2
              exact ⟨⟨0 + 1, _, rfl, rfl, by omega, hfin, hszf, HK', q1, hB⟩, by simp [intOf]; omega⟩
            · have hk0' : (0 : Int) < (k : Int) := by omega
              have hfin : Hid (((S ++ (⟨#[32]⟩ : ByteArray)) ++ ByteArray.mk y.text.toArray).data.toList = spread ((ts.take (k + 1)).map (·.text))) := by
                show _ = _
                rw [HT.out, spread_snoc _ _ (by
                  intro h
                  have := congrArg List.length h
                  simp [HN.out] at this
                  omega), ← HS.out]
                simp
              have hszf : ((S ++ (⟨#[32]⟩ : ByteArray)) ++ ByteArray.mk y.text.toArray).size ≤ (k + 1) * 65537 := by
                rw [ByteArray.size_append, ByteArray.size_append]
                show S.size + 1 + _ ≤ _
                omega
              go_wp2
              exact ⟨⟨k + 1, _, rfl, rfl, by omega, hfin, hszf, HK', q1, hB⟩, by simp [intOf]; omega⟩
        · have hl2 : decide ((k : Int) < (n : Int)) = false := decide_eq_false (by omega)
          have hkn' : k = n := by omega
          have hall : ts.take k = ts := List.take_of_length_le (by rw [HN.out]; omega)
          rw [hall] at HS HK
          obtain ⟨ys, hy1, hy2⟩ := tk_spread E1.out HK.out
          have hyl : ys.length = n := by
            have := congrArg List.length hy2
            simpa [HN.out] using this
          clear hall hSz
          have HY := Lib.hid hy2
          clear hy2
          go_wp2_with (fail)
          refine ((hw.below hB).tokens S).mono ?_
          rintro e w3 ⟨hb3, hp⟩
          have hbb4 := hB.trans (hb3.mono hB.size)
          by_cases hbig : 65536 < S.size
          · rw [show tokensOf S = .bad 2 0 from if_pos hbig] at hp
            obtain ⟨_, rfl⟩ := hp
            have hbb5 := hbb4.alloc hbb4.size (.cells #[.int .i64 2, .int .i64 0] 26)
            have hbig' : (65536 : Int) < (S.size : Int) := by omega
            unfold mish
            go_wp2
            go_ret
            exact ⟨rfl, hbb5⟩
          · have ht2 : tokensOf S = .ok ys := by
              unfold tokensOf
              rw [if_neg hbig, rest_zero, HS.out]
              exact hy1
            rw [ht2] at hp
            obtain ⟨v2, rfl, ho2⟩ := hp
            have r2 : RowT w3 v2 ys := ⟨_, ho2⟩
            clear ho2 ht2 hy1
            obtain ⟨a2, cap2, rfl, hc2, hm2⟩ := r2.form
            have hbb5 := hbb4.alloc hbb4.size (.cells #[.int .i64 0, .int .i64 0] 26)
            have q1' := (q1.below hb3).alloc (.cells #[.int .i64 0, .int .i64 0] 26)
            have q2 := r2.alloc (.cells #[.int .i64 0, .int .i64 0] 26)
            have hbig' : decide ((65536 : Int) < (S.size : Int)) = false := decide_eq_false (by omega)
            rw [hyl] at q2 hc2 ⊢
            have HYL := Lib.hid hyl
            clear hyl r2
            unfold mish
            go_wp2
            go_loopw [10] (fun x wr => ∃ k : Nat, x = .int .i64 (k : Int) ∧ k ≤ n ∧ RowT wr (.slice a1 n cap1) ts ∧ RowT wr (.slice a2 n cap2) ys ∧ Below w.heap.size w wr) (fun x _ => (n + 10 - intOf x).toNat)
            case atStart => exact ⟨0, rfl, Nat.zero_le _, q1', q2, hbb5⟩
            case round =>
              clear q1 q1' q2 hbb5
              obtain ⟨k2, rfl, hk2, q1, q2, hB2⟩ := hrel
              by_cases hkn2 : k2 < n
              · have hkl2 : (k2 : Int) < (n : Int) := by omega
                have hn := HN.out
                have hn2 := HYL.out
                obtain ⟨g1, rfl, hgl1, e0, e1, e2, e3⟩ := q1.at (k := k2) (by omega)
                obtain ⟨g2, rfl, hgl2, f0, f1, f2, f3⟩ := q2.at (k := k2) (by omega)
                have hkey : key (ys[k2]'(by omega)) = key (ts[k2]'(by omega)) := by
                  have h1 : (ys.map key)[k2]'(by simp; omega) = (ts.map key)[k2]'(by simp; omega) := by simp only [HY.out]
                  simpa using h1
                simp only [key, Prod.mk.injEq] at hkey
                rw [hkey.1] at f0
                rw [hkey.2.1] at f1
                rw [hkey.2.2] at f2
                clear hkey f3
                generalize ts[k2]'(by omega) = y at e0 e1 e2 e3 f0 f1 f2
                clear hn hn2
                go_wp2
                go_quiet (fail)
                go_wp2
                exact ⟨⟨k2 + 1, rfl, by omega, q1.drewN nq, q2.drewN nq, below_drewN' hB2 nq⟩, by simp [intOf]; omega⟩
              · have hl3 : decide ((k2 : Int) < (n : Int)) = false := decide_eq_false (by omega)
                go_wp2
                go_ret
                exact ⟨rfl, hB2⟩
end Go.Proofs.YtndcbbhfhcjadaaDoor
