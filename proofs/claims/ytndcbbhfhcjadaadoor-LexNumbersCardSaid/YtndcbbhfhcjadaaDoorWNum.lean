/- The walks of sextantlaw02.told and of sextantlaw02.LexNumbers. -/
import Derived.Test.YtndcbbhfhcjadaaDoorWTokens
import Derived.Test.YtndcbbhfhcjadaaDoorPLaw
namespace Go.Proofs.YtndcbbhfhcjadaaDoor
open Go.RowKit
set_option linter.unusedVariables false

/-- A number's digits. -/
def dec (n : Nat) : Bs := if n < 10 then [UInt8.ofNat (48 + n)] else dec (n / 10) ++ dec (n % 10)
termination_by n
decreasing_by all_goals omega

theorem dec_small {n : Nat} (h : n < 10) : dec n = [UInt8.ofNat (48 + n)] := by rw [dec, if_pos h]
theorem dec_big {n : Nat} (h : ¬ n < 10) : dec n = dec (n / 10) ++ [UInt8.ofNat (48 + n % 10)] := by
  rw [dec, if_neg h, dec_small (n := n % 10) (by omega)]
theorem dig_byte {d : Nat} (h : d < 10) : isDig (UInt8.ofNat (48 + d)) = true ∧ (UInt8.ofNat (48 + d)).toNat - 48 = d := by
  have : ∀ n : Fin 10, isDig (UInt8.ofNat (48 + n.val)) = true ∧ (UInt8.ofNat (48 + n.val)).toNat - 48 = n.val := by decide +kernel
  exact this ⟨d, h⟩
theorem dec_laws : ∀ (k n : Nat), n < 10 ^ (k + 1) → (dec n).all isDig = true ∧ val 0 (dec n) = n ∧ dec n ≠ [] ∧ (dec n).length ≤ k + 1
  | 0, n, h => by
    have h' : n < 10 := by simpa using h
    rw [dec_small h']
    obtain ⟨h1, h2⟩ := dig_byte h'
    refine ⟨by rw [List.all_cons, h1]; rfl, ?_, by simp, by simp⟩
    simp only [val, List.foldl_cons, List.foldl_nil]
    omega
  | k + 1, n, h => by
    by_cases hn : n < 10
    · obtain ⟨a, b, c, d⟩ := dec_laws k n (Nat.lt_of_lt_of_le hn (Nat.le_trans (by omega) (Nat.pow_le_pow_right (n := 10) (by omega) (show 1 ≤ k + 1 by omega))))
      exact ⟨a, b, c, by omega⟩
    · have hlt : n / 10 < 10 ^ (k + 1) := by rw [Nat.pow_succ] at h; omega
      obtain ⟨a, b, c, d⟩ := dec_laws k (n / 10) hlt
      obtain ⟨h1, h2⟩ := dig_byte (d := n % 10) (by omega)
      rw [dec_big hn]
      refine ⟨by rw [List.all_append, a, List.all_cons, h1]; rfl, ?_, by simp, by simp; omega⟩
      rw [val_app, b, h2]
      omega

set_option maxRecDepth 100000 in
theorem told : ∀ (k n : Nat) (w : World), n < k → n < 1000000000000 → Calls Tryd.prog 14 #[.int .i64 (n : Int)] w fun e w' => e = .returned (.string ⟨(dec n).toArray⟩) ∧ w' = w
  | 0, _, _, h, _ => by omega
  | k + 1, n, w, h, hb => by
    by_cases hn : n < 10
    · have hn' : (n : Int) < 10 := by omega
      have hp : ∀ m : Nat, m < 10 → (ByteArray.mk #[48, 49, 50, 51, 52, 53, 54, 55, 56, 57]).extract m (m + 1) = ⟨#[UInt8.ofNat (48 + m)]⟩ := by
        intro m hm
        have : ∀ m : Fin 10, (ByteArray.mk #[48, 49, 50, 51, 52, 53, 54, 55, 56, 57]).extract m.val (m.val + 1) = ⟨#[UInt8.ofNat (48 + m.val)]⟩ := by decide +kernel
        exact this ⟨m, hm⟩
      have HP := Lib.hid (hp n hn)
      clear hp
      rw [dec_small hn]
      go_enter Tryd.func14, Tryd.ntmps14
      go_wp2
      go_ret
      rw [show (ByteArray.mk #[48, 49, 50, 51, 52, 53, 54, 55, 56, 57]).extract n (n + 1) = _ from HP.out]
      exact ⟨rfl, rfl⟩
    · have hn' : decide ((n : Int) < 10) = false := by simp; omega
      have h1 : Hid (∀ w, Calls Tryd.prog 14 #[.int .i64 ((n : Int) / 10)] w fun e w' => e = .returned (.string ⟨(dec (n / 10)).toArray⟩) ∧ w' = w) := fun w => by
        have := told k (n / 10) w (by omega) (by omega)
        rwa [show ((n / 10 : Nat) : Int) = (n : Int) / 10 by omega] at this
      have h2 : Hid (∀ w, Calls Tryd.prog 14 #[.int .i64 ((n : Int) % 10)] w fun e w' => e = .returned (.string ⟨(dec (n % 10)).toArray⟩) ∧ w' = w) := fun w => by
        have := told k (n % 10) w (by omega) (by omega)
        rwa [show ((n % 10 : Nat) : Int) = (n : Int) % 10 by omega] at this
      have hs1 : (ByteArray.mk (dec (n / 10)).toArray).size ≤ 13 := by
        have := (dec_laws 12 (n / 10) (by omega)).2.2.2
        show (dec (n / 10)).toArray.size ≤ 13
        simpa using this
      have hs2 : (ByteArray.mk (dec (n % 10)).toArray).size ≤ 13 := by
        have := (dec_laws 12 (n % 10) (by omega)).2.2.2
        show (dec (n % 10)).toArray.size ≤ 13
        simpa using this
      have he : (ByteArray.mk (dec (n / 10)).toArray) ++ (ByteArray.mk (dec (n % 10)).toArray) = ⟨(dec n).toArray⟩ := by
        rw [dec.eq_1 n, if_neg hn]
        apply ByteArray.ext
        simp
      have HE := Lib.hid he
      clear he
      go_enter Tryd.func14, Tryd.ntmps14
      go_wp2_with (fail)
      refine (h1.out _).mono ?_
      rintro e w ⟨rfl, rfl⟩
      go_wp2_with (fail)
      refine (h2.out _).mono ?_
      rintro e w ⟨rfl, rfl⟩
      go_wp2
      go_ret
      rw [← HE.out]
      exact ⟨rfl, rfl⟩
theorem val_noughts : ∀ (k : Nat) (l : Bs), val 0 (List.replicate k 48 ++ l) = val 0 l
  | 0, _ => rfl
  | k + 1, l => by
    rw [List.replicate_succ, List.cons_append]
    exact val_noughts k l

set_option maxHeartbeats 8000000 in
set_option maxRecDepth 100000 in
theorem lawNumbers (n m : Int) (hn : -9223372036854775808 ≤ n ∧ n ≤ 9223372036854775807) (hm : -9223372036854775808 ≤ m ∧ m ≤ 9223372036854775807) (w : World) (hw : Sound w) :
    Calls Tryd.prog 7 #[.int .i64 n, .int .i64 m] w fun e w' => e = .returned (.bool true) ∧ Below w.heap.size w w' := by
  by_cases hn0 : n < 0 <;> by_cases hm0 : m < 0
  · obtain ⟨N, hN⟩ : ∃ N : Nat, -(n + 1) = (N : Int) := ⟨(-(n + 1)).toNat, by omega⟩
    obtain ⟨M, hM⟩ : ∃ M : Nat, -(m + 1) = (M : Int) := ⟨(-(m + 1)).toNat, by omega⟩
    have hNb : N < 9223372036854775808 := by omega
    have hMb : M < 9223372036854775808 := by omega
    go_enter Tryd.func7, Tryd.ntmps7
    go_wp2_with (fail)
    refine (hw.awake).mono ?_
    rintro e w1 ⟨rfl, hb1⟩
    obtain ⟨P, hP⟩ : ∃ P, P = N % 8589934592 := ⟨_, rfl⟩
    have hP1 : (N : Int) % 8589934592 = (P : Int) := by omega
    have hP2 : Int.tmod (N : Int) 8589934592 = (P : Int) := by rw [Int.tmod_eq_emod_of_nonneg (by omega)]; exact hP1
    have hPb : P < 8589934592 := by omega
    clear hP
    obtain ⟨Q, hQ⟩ : ∃ Q, Q = M % 6 := ⟨_, rfl⟩
    have hQ1 : (M : Int) % 6 = (Q : Int) := by omega
    have hQ2 : Int.tmod (M : Int) 6 = (Q : Int) := by rw [Int.tmod_eq_emod_of_nonneg (by omega)]; exact hQ1
    have hQb : Q < 6 := by omega
    clear hQ
    have hT := Lib.hid fun w => told (P + 1) P w (by omega) (by omega)
    obtain ⟨da, db, dc, dd⟩ := dec_laws 9 P (by omega)
    have DA := Lib.hid (And.intro da (And.intro db dc))
    clear da db dc
    go_wp2_with (fail)
    refine (hT.out _).mono ?_
    rintro e w2 ⟨rfl, rfl⟩
    go_wp2
    go_loopw [6, 7] (fun v n wr => ∃ (j : Nat) (l : Bs), n = .int .i64 (j : Int) ∧ v = .string ⟨l.toArray⟩ ∧ j ≤ Q ∧ Hid (l = List.replicate j 48 ++ dec P) ∧ wr = w2) (fun _ n _ => (Q + 10 - intOf n).toNat)
    case atStart => exact ⟨0, dec P, rfl, rfl, Nat.zero_le _, (show _ = _ by simp), rfl⟩
    case round =>
      obtain ⟨j, l, rfl, rfl, hj, HL, rfl⟩ := hrel
      have hll : l.length ≤ 20 := by rw [HL.out]; simp; omega
      have hsz : (ByteArray.mk l.toArray).size ≤ 20 := by show l.toArray.size ≤ 20; simpa using hll
      by_cases hjq : j < Q
      · have hjq' : (j : Int) < (Q : Int) := by omega
        have hc : (ByteArray.mk #[48]) ++ (ByteArray.mk l.toArray) = ⟨(48 :: l).toArray⟩ := by apply ByteArray.ext; simp
        go_wp2
        exact ⟨⟨j + 1, 48 :: l, rfl, rfl, by omega, (show _ = _ by rw [HL.out, List.replicate_succ]; rfl), trivial⟩, by simp [intOf]; omega⟩
      · have hjq' : decide ((j : Int) < (Q : Int)) = false := by simp; omega
        have hjeq : j = Q := by omega
        have hsl : (ByteArray.mk l.toArray).size = l.length := by show l.toArray.size = _; simp
        have hrest : rest (ByteArray.mk l.toArray) 0 = l := by rw [rest_zero]
        obtain ⟨hd1, hd2, hd3⟩ := DA.out
        have hall : l.all isDig = true := by rw [HL.out, List.all_append, hd1]; simp [List.all_replicate, isDig, dig]
        have hval : val 0 l = P := by rw [HL.out, val_noughts, hd2]
        have hne : l ≠ [] := by rw [HL.out]; intro h; exact hd3 (List.append_eq_nil_iff.1 h).2
        have htk : tokensOf ⟨l.toArray⟩ = if 10 < l.length || 2147483647 < P then .bad 22 0 else .ok [⟨2, l, P, 0⟩] := by
          unfold tokensOf
          rw [if_neg (by rw [hsl]; omega), hrest, tk_digits hne hall, hval]
        have HTK := Lib.hid htk
        have HSL := Lib.hid hsl
        clear hrest hd1 hd2 hd3 hall hval hne htk hsl hjeq
        go_wp2_with (fail)
        refine ((hw.below hb1).tokens ⟨l.toArray⟩).mono ?_
        rintro e w3 ⟨hb3, hp⟩
        rw [HTK.out] at hp
        have hbb := hb1.trans (hb3.mono hb1.size)
        have hsl := HSL.out
        by_cases hbig : 10 < l.length ∨ 2147483647 < P
        · rw [if_pos (by simpa using hbig)] at hp
          obtain ⟨_, rfl⟩ := hp
          have hbb2 := hbb.alloc hbb.size (.cells #[.int .i64 22, .int .i64 0] 26)
          unfold mish
          by_cases hlen : 10 < l.length
          · have hlen' : (10 : Int) < (l.length : Int) := by omega
            go_wp2
            go_ret
            exact ⟨rfl, hbb2⟩
          · have hlen' : decide ((10 : Int) < (l.length : Int)) = false := by simp; omega
            have hpb : (2147483647 : Int) < (P : Int) := by omega
            go_wp2
            go_ret
            exact ⟨rfl, hbb2⟩
        · rw [if_neg (by simpa using hbig)] at hp
          obtain ⟨v, rfl, ho⟩ := hp
          obtain ⟨g, cap, rfl, hg, hgl, hcap, hcm, hcs, hfz⟩ := owns_some ho (by simp)
          have hbb2 := hbb.alloc hbb.size (.cells #[.int .i64 0, .int .i64 0] 26)
          have e0 : w3.cell? ⟨g, 0, none⟩ = some (.int .i64 2) := (hcs 0 (by simp)).trans rfl
          have e1 : w3.cell? ⟨g, 1, none⟩ = some (.string ⟨l.toArray⟩) := (hcs 1 (by simp)).trans rfl
          have e2 : w3.cell? ⟨g, 2, none⟩ = some (.int .i64 (P : Int)) := (hcs 2 (by simp)).trans rfl
          have hlen' : decide ((10 : Int) < (l.length : Int)) = false := by simp; omega
          have hpb : decide ((2147483647 : Int) < (P : Int)) = false := by simp; omega
          rw [show ([⟨2, l, P, 0⟩] : List Tk).length = 1 from rfl] at hcap ⊢
          clear hcs hfz ho
          unfold mish
          go_wp2
          go_ret
          exact ⟨rfl, hbb2⟩
  · obtain ⟨N, hN⟩ : ∃ N : Nat, -(n + 1) = (N : Int) := ⟨(-(n + 1)).toNat, by omega⟩
    obtain ⟨M, hM⟩ : ∃ M : Nat, m = (M : Int) := ⟨(m).toNat, by omega⟩
    have hNb : N < 9223372036854775808 := by omega
    have hMb : M < 9223372036854775808 := by omega
    subst hM
    have hM0 : decide ((M : Int) < 0) = false := by simp
    go_enter Tryd.func7, Tryd.ntmps7
    go_wp2_with (fail)
    refine (hw.awake).mono ?_
    rintro e w1 ⟨rfl, hb1⟩
    obtain ⟨P, hP⟩ : ∃ P, P = N % 8589934592 := ⟨_, rfl⟩
    have hP1 : (N : Int) % 8589934592 = (P : Int) := by omega
    have hP2 : Int.tmod (N : Int) 8589934592 = (P : Int) := by rw [Int.tmod_eq_emod_of_nonneg (by omega)]; exact hP1
    have hPb : P < 8589934592 := by omega
    clear hP
    obtain ⟨Q, hQ⟩ : ∃ Q, Q = M % 6 := ⟨_, rfl⟩
    have hQ1 : (M : Int) % 6 = (Q : Int) := by omega
    have hQ2 : Int.tmod (M : Int) 6 = (Q : Int) := by rw [Int.tmod_eq_emod_of_nonneg (by omega)]; exact hQ1
    have hQb : Q < 6 := by omega
    clear hQ
    have hT := Lib.hid fun w => told (P + 1) P w (by omega) (by omega)
    obtain ⟨da, db, dc, dd⟩ := dec_laws 9 P (by omega)
    have DA := Lib.hid (And.intro da (And.intro db dc))
    clear da db dc
    go_wp2_with (fail)
    refine (hT.out _).mono ?_
    rintro e w2 ⟨rfl, rfl⟩
    go_wp2
    go_loopw [6, 7] (fun v n wr => ∃ (j : Nat) (l : Bs), n = .int .i64 (j : Int) ∧ v = .string ⟨l.toArray⟩ ∧ j ≤ Q ∧ Hid (l = List.replicate j 48 ++ dec P) ∧ wr = w2) (fun _ n _ => (Q + 10 - intOf n).toNat)
    case atStart => exact ⟨0, dec P, rfl, rfl, Nat.zero_le _, (show _ = _ by simp), rfl⟩
    case round =>
      obtain ⟨j, l, rfl, rfl, hj, HL, rfl⟩ := hrel
      have hll : l.length ≤ 20 := by rw [HL.out]; simp; omega
      have hsz : (ByteArray.mk l.toArray).size ≤ 20 := by show l.toArray.size ≤ 20; simpa using hll
      by_cases hjq : j < Q
      · have hjq' : (j : Int) < (Q : Int) := by omega
        have hc : (ByteArray.mk #[48]) ++ (ByteArray.mk l.toArray) = ⟨(48 :: l).toArray⟩ := by apply ByteArray.ext; simp
        go_wp2
        exact ⟨⟨j + 1, 48 :: l, rfl, rfl, by omega, (show _ = _ by rw [HL.out, List.replicate_succ]; rfl), trivial⟩, by simp [intOf]; omega⟩
      · have hjq' : decide ((j : Int) < (Q : Int)) = false := by simp; omega
        have hjeq : j = Q := by omega
        have hsl : (ByteArray.mk l.toArray).size = l.length := by show l.toArray.size = _; simp
        have hrest : rest (ByteArray.mk l.toArray) 0 = l := by rw [rest_zero]
        obtain ⟨hd1, hd2, hd3⟩ := DA.out
        have hall : l.all isDig = true := by rw [HL.out, List.all_append, hd1]; simp [List.all_replicate, isDig, dig]
        have hval : val 0 l = P := by rw [HL.out, val_noughts, hd2]
        have hne : l ≠ [] := by rw [HL.out]; intro h; exact hd3 (List.append_eq_nil_iff.1 h).2
        have htk : tokensOf ⟨l.toArray⟩ = if 10 < l.length || 2147483647 < P then .bad 22 0 else .ok [⟨2, l, P, 0⟩] := by
          unfold tokensOf
          rw [if_neg (by rw [hsl]; omega), hrest, tk_digits hne hall, hval]
        have HTK := Lib.hid htk
        have HSL := Lib.hid hsl
        clear hrest hd1 hd2 hd3 hall hval hne htk hsl hjeq
        go_wp2_with (fail)
        refine ((hw.below hb1).tokens ⟨l.toArray⟩).mono ?_
        rintro e w3 ⟨hb3, hp⟩
        rw [HTK.out] at hp
        have hbb := hb1.trans (hb3.mono hb1.size)
        have hsl := HSL.out
        by_cases hbig : 10 < l.length ∨ 2147483647 < P
        · rw [if_pos (by simpa using hbig)] at hp
          obtain ⟨_, rfl⟩ := hp
          have hbb2 := hbb.alloc hbb.size (.cells #[.int .i64 22, .int .i64 0] 26)
          unfold mish
          by_cases hlen : 10 < l.length
          · have hlen' : (10 : Int) < (l.length : Int) := by omega
            go_wp2
            go_ret
            exact ⟨rfl, hbb2⟩
          · have hlen' : decide ((10 : Int) < (l.length : Int)) = false := by simp; omega
            have hpb : (2147483647 : Int) < (P : Int) := by omega
            go_wp2
            go_ret
            exact ⟨rfl, hbb2⟩
        · rw [if_neg (by simpa using hbig)] at hp
          obtain ⟨v, rfl, ho⟩ := hp
          obtain ⟨g, cap, rfl, hg, hgl, hcap, hcm, hcs, hfz⟩ := owns_some ho (by simp)
          have hbb2 := hbb.alloc hbb.size (.cells #[.int .i64 0, .int .i64 0] 26)
          have e0 : w3.cell? ⟨g, 0, none⟩ = some (.int .i64 2) := (hcs 0 (by simp)).trans rfl
          have e1 : w3.cell? ⟨g, 1, none⟩ = some (.string ⟨l.toArray⟩) := (hcs 1 (by simp)).trans rfl
          have e2 : w3.cell? ⟨g, 2, none⟩ = some (.int .i64 (P : Int)) := (hcs 2 (by simp)).trans rfl
          have hlen' : decide ((10 : Int) < (l.length : Int)) = false := by simp; omega
          have hpb : decide ((2147483647 : Int) < (P : Int)) = false := by simp; omega
          rw [show ([⟨2, l, P, 0⟩] : List Tk).length = 1 from rfl] at hcap ⊢
          clear hcs hfz ho
          unfold mish
          go_wp2
          go_ret
          exact ⟨rfl, hbb2⟩
  · obtain ⟨N, hN⟩ : ∃ N : Nat, n = (N : Int) := ⟨(n).toNat, by omega⟩
    obtain ⟨M, hM⟩ : ∃ M : Nat, -(m + 1) = (M : Int) := ⟨(-(m + 1)).toNat, by omega⟩
    have hNb : N < 9223372036854775808 := by omega
    have hMb : M < 9223372036854775808 := by omega
    subst hN
    have hN0 : decide ((N : Int) < 0) = false := by simp
    go_enter Tryd.func7, Tryd.ntmps7
    go_wp2_with (fail)
    refine (hw.awake).mono ?_
    rintro e w1 ⟨rfl, hb1⟩
    obtain ⟨P, hP⟩ : ∃ P, P = N % 8589934592 := ⟨_, rfl⟩
    have hP1 : (N : Int) % 8589934592 = (P : Int) := by omega
    have hP2 : Int.tmod (N : Int) 8589934592 = (P : Int) := by rw [Int.tmod_eq_emod_of_nonneg (by omega)]; exact hP1
    have hPb : P < 8589934592 := by omega
    clear hP
    obtain ⟨Q, hQ⟩ : ∃ Q, Q = M % 6 := ⟨_, rfl⟩
    have hQ1 : (M : Int) % 6 = (Q : Int) := by omega
    have hQ2 : Int.tmod (M : Int) 6 = (Q : Int) := by rw [Int.tmod_eq_emod_of_nonneg (by omega)]; exact hQ1
    have hQb : Q < 6 := by omega
    clear hQ
    have hT := Lib.hid fun w => told (P + 1) P w (by omega) (by omega)
    obtain ⟨da, db, dc, dd⟩ := dec_laws 9 P (by omega)
    have DA := Lib.hid (And.intro da (And.intro db dc))
    clear da db dc
    go_wp2_with (fail)
    refine (hT.out _).mono ?_
    rintro e w2 ⟨rfl, rfl⟩
    go_wp2
    go_loopw [6, 7] (fun v n wr => ∃ (j : Nat) (l : Bs), n = .int .i64 (j : Int) ∧ v = .string ⟨l.toArray⟩ ∧ j ≤ Q ∧ Hid (l = List.replicate j 48 ++ dec P) ∧ wr = w2) (fun _ n _ => (Q + 10 - intOf n).toNat)
    case atStart => exact ⟨0, dec P, rfl, rfl, Nat.zero_le _, (show _ = _ by simp), rfl⟩
    case round =>
      obtain ⟨j, l, rfl, rfl, hj, HL, rfl⟩ := hrel
      have hll : l.length ≤ 20 := by rw [HL.out]; simp; omega
      have hsz : (ByteArray.mk l.toArray).size ≤ 20 := by show l.toArray.size ≤ 20; simpa using hll
      by_cases hjq : j < Q
      · have hjq' : (j : Int) < (Q : Int) := by omega
        have hc : (ByteArray.mk #[48]) ++ (ByteArray.mk l.toArray) = ⟨(48 :: l).toArray⟩ := by apply ByteArray.ext; simp
        go_wp2
        exact ⟨⟨j + 1, 48 :: l, rfl, rfl, by omega, (show _ = _ by rw [HL.out, List.replicate_succ]; rfl), trivial⟩, by simp [intOf]; omega⟩
      · have hjq' : decide ((j : Int) < (Q : Int)) = false := by simp; omega
        have hjeq : j = Q := by omega
        have hsl : (ByteArray.mk l.toArray).size = l.length := by show l.toArray.size = _; simp
        have hrest : rest (ByteArray.mk l.toArray) 0 = l := by rw [rest_zero]
        obtain ⟨hd1, hd2, hd3⟩ := DA.out
        have hall : l.all isDig = true := by rw [HL.out, List.all_append, hd1]; simp [List.all_replicate, isDig, dig]
        have hval : val 0 l = P := by rw [HL.out, val_noughts, hd2]
        have hne : l ≠ [] := by rw [HL.out]; intro h; exact hd3 (List.append_eq_nil_iff.1 h).2
        have htk : tokensOf ⟨l.toArray⟩ = if 10 < l.length || 2147483647 < P then .bad 22 0 else .ok [⟨2, l, P, 0⟩] := by
          unfold tokensOf
          rw [if_neg (by rw [hsl]; omega), hrest, tk_digits hne hall, hval]
        have HTK := Lib.hid htk
        have HSL := Lib.hid hsl
        clear hrest hd1 hd2 hd3 hall hval hne htk hsl hjeq
        go_wp2_with (fail)
        refine ((hw.below hb1).tokens ⟨l.toArray⟩).mono ?_
        rintro e w3 ⟨hb3, hp⟩
        rw [HTK.out] at hp
        have hbb := hb1.trans (hb3.mono hb1.size)
        have hsl := HSL.out
        by_cases hbig : 10 < l.length ∨ 2147483647 < P
        · rw [if_pos (by simpa using hbig)] at hp
          obtain ⟨_, rfl⟩ := hp
          have hbb2 := hbb.alloc hbb.size (.cells #[.int .i64 22, .int .i64 0] 26)
          unfold mish
          by_cases hlen : 10 < l.length
          · have hlen' : (10 : Int) < (l.length : Int) := by omega
            go_wp2
            go_ret
            exact ⟨rfl, hbb2⟩
          · have hlen' : decide ((10 : Int) < (l.length : Int)) = false := by simp; omega
            have hpb : (2147483647 : Int) < (P : Int) := by omega
            go_wp2
            go_ret
            exact ⟨rfl, hbb2⟩
        · rw [if_neg (by simpa using hbig)] at hp
          obtain ⟨v, rfl, ho⟩ := hp
          obtain ⟨g, cap, rfl, hg, hgl, hcap, hcm, hcs, hfz⟩ := owns_some ho (by simp)
          have hbb2 := hbb.alloc hbb.size (.cells #[.int .i64 0, .int .i64 0] 26)
          have e0 : w3.cell? ⟨g, 0, none⟩ = some (.int .i64 2) := (hcs 0 (by simp)).trans rfl
          have e1 : w3.cell? ⟨g, 1, none⟩ = some (.string ⟨l.toArray⟩) := (hcs 1 (by simp)).trans rfl
          have e2 : w3.cell? ⟨g, 2, none⟩ = some (.int .i64 (P : Int)) := (hcs 2 (by simp)).trans rfl
          have hlen' : decide ((10 : Int) < (l.length : Int)) = false := by simp; omega
          have hpb : decide ((2147483647 : Int) < (P : Int)) = false := by simp; omega
          rw [show ([⟨2, l, P, 0⟩] : List Tk).length = 1 from rfl] at hcap ⊢
          clear hcs hfz ho
          unfold mish
          go_wp2
          go_ret
          exact ⟨rfl, hbb2⟩
  · obtain ⟨N, hN⟩ : ∃ N : Nat, n = (N : Int) := ⟨(n).toNat, by omega⟩
    obtain ⟨M, hM⟩ : ∃ M : Nat, m = (M : Int) := ⟨(m).toNat, by omega⟩
    have hNb : N < 9223372036854775808 := by omega
    have hMb : M < 9223372036854775808 := by omega
    subst hN
    have hN0 : decide ((N : Int) < 0) = false := by simp
    subst hM
    have hM0 : decide ((M : Int) < 0) = false := by simp
    go_enter Tryd.func7, Tryd.ntmps7
    go_wp2_with (fail)
    refine (hw.awake).mono ?_
    rintro e w1 ⟨rfl, hb1⟩
    obtain ⟨P, hP⟩ : ∃ P, P = N % 8589934592 := ⟨_, rfl⟩
    have hP1 : (N : Int) % 8589934592 = (P : Int) := by omega
    have hP2 : Int.tmod (N : Int) 8589934592 = (P : Int) := by rw [Int.tmod_eq_emod_of_nonneg (by omega)]; exact hP1
    have hPb : P < 8589934592 := by omega
    clear hP
    obtain ⟨Q, hQ⟩ : ∃ Q, Q = M % 6 := ⟨_, rfl⟩
    have hQ1 : (M : Int) % 6 = (Q : Int) := by omega
    have hQ2 : Int.tmod (M : Int) 6 = (Q : Int) := by rw [Int.tmod_eq_emod_of_nonneg (by omega)]; exact hQ1
    have hQb : Q < 6 := by omega
    clear hQ
    have hT := Lib.hid fun w => told (P + 1) P w (by omega) (by omega)
    obtain ⟨da, db, dc, dd⟩ := dec_laws 9 P (by omega)
    have DA := Lib.hid (And.intro da (And.intro db dc))
    clear da db dc
    go_wp2_with (fail)
    refine (hT.out _).mono ?_
    rintro e w2 ⟨rfl, rfl⟩
    go_wp2
    go_loopw [6, 7] (fun v n wr => ∃ (j : Nat) (l : Bs), n = .int .i64 (j : Int) ∧ v = .string ⟨l.toArray⟩ ∧ j ≤ Q ∧ Hid (l = List.replicate j 48 ++ dec P) ∧ wr = w2) (fun _ n _ => (Q + 10 - intOf n).toNat)
    case atStart => exact ⟨0, dec P, rfl, rfl, Nat.zero_le _, (show _ = _ by simp), rfl⟩
    case round =>
      obtain ⟨j, l, rfl, rfl, hj, HL, rfl⟩ := hrel
      have hll : l.length ≤ 20 := by rw [HL.out]; simp; omega
      have hsz : (ByteArray.mk l.toArray).size ≤ 20 := by show l.toArray.size ≤ 20; simpa using hll
      by_cases hjq : j < Q
      · have hjq' : (j : Int) < (Q : Int) := by omega
        have hc : (ByteArray.mk #[48]) ++ (ByteArray.mk l.toArray) = ⟨(48 :: l).toArray⟩ := by apply ByteArray.ext; simp
        go_wp2
        exact ⟨⟨j + 1, 48 :: l, rfl, rfl, by omega, (show _ = _ by rw [HL.out, List.replicate_succ]; rfl), trivial⟩, by simp [intOf]; omega⟩
      · have hjq' : decide ((j : Int) < (Q : Int)) = false := by simp; omega
        have hjeq : j = Q := by omega
        have hsl : (ByteArray.mk l.toArray).size = l.length := by show l.toArray.size = _; simp
        have hrest : rest (ByteArray.mk l.toArray) 0 = l := by rw [rest_zero]
        obtain ⟨hd1, hd2, hd3⟩ := DA.out
        have hall : l.all isDig = true := by rw [HL.out, List.all_append, hd1]; simp [List.all_replicate, isDig, dig]
        have hval : val 0 l = P := by rw [HL.out, val_noughts, hd2]
        have hne : l ≠ [] := by rw [HL.out]; intro h; exact hd3 (List.append_eq_nil_iff.1 h).2
        have htk : tokensOf ⟨l.toArray⟩ = if 10 < l.length || 2147483647 < P then .bad 22 0 else .ok [⟨2, l, P, 0⟩] := by
          unfold tokensOf
          rw [if_neg (by rw [hsl]; omega), hrest, tk_digits hne hall, hval]
        have HTK := Lib.hid htk
        have HSL := Lib.hid hsl
        clear hrest hd1 hd2 hd3 hall hval hne htk hsl hjeq
        go_wp2_with (fail)
        refine ((hw.below hb1).tokens ⟨l.toArray⟩).mono ?_
        rintro e w3 ⟨hb3, hp⟩
        rw [HTK.out] at hp
        have hbb := hb1.trans (hb3.mono hb1.size)
        have hsl := HSL.out
        by_cases hbig : 10 < l.length ∨ 2147483647 < P
        · rw [if_pos (by simpa using hbig)] at hp
          obtain ⟨_, rfl⟩ := hp
          have hbb2 := hbb.alloc hbb.size (.cells #[.int .i64 22, .int .i64 0] 26)
          unfold mish
          by_cases hlen : 10 < l.length
          · have hlen' : (10 : Int) < (l.length : Int) := by omega
            go_wp2
            go_ret
            exact ⟨rfl, hbb2⟩
          · have hlen' : decide ((10 : Int) < (l.length : Int)) = false := by simp; omega
            have hpb : (2147483647 : Int) < (P : Int) := by omega
            go_wp2
            go_ret
            exact ⟨rfl, hbb2⟩
        · rw [if_neg (by simpa using hbig)] at hp
          obtain ⟨v, rfl, ho⟩ := hp
          obtain ⟨g, cap, rfl, hg, hgl, hcap, hcm, hcs, hfz⟩ := owns_some ho (by simp)
          have hbb2 := hbb.alloc hbb.size (.cells #[.int .i64 0, .int .i64 0] 26)
          have e0 : w3.cell? ⟨g, 0, none⟩ = some (.int .i64 2) := (hcs 0 (by simp)).trans rfl
          have e1 : w3.cell? ⟨g, 1, none⟩ = some (.string ⟨l.toArray⟩) := (hcs 1 (by simp)).trans rfl
          have e2 : w3.cell? ⟨g, 2, none⟩ = some (.int .i64 (P : Int)) := (hcs 2 (by simp)).trans rfl
          have hlen' : decide ((10 : Int) < (l.length : Int)) = false := by simp; omega
          have hpb : decide ((2147483647 : Int) < (P : Int)) = false := by simp; omega
          rw [show ([⟨2, l, P, 0⟩] : List Tk).length = 1 from rfl] at hcap ⊢
          clear hcs hfz ho
          unfold mish
          go_wp2
          go_ret
          exact ⟨rfl, hbb2⟩
end Go.Proofs.YtndcbbhfhcjadaaDoor
