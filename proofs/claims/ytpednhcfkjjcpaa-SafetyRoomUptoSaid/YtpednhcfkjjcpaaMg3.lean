/- Key, Map, MapIn, joined. -/
import Derived.Test.YtpednhcfkjjcpaaEx
import Derived.Maps.OwnIn
import Derived.Maps.OwnOps
section
/- A node's name as bytes: plain. -/
namespace Go.Proofs.Ytpednhcfkjjcpaa
open Go.RowKit
set_option linter.unusedVariables false
set_option linter.unusedSimpArgs false

theorem u8_toNat {n : Nat} (h : n < 256) : (UInt8.ofNat n).toNat = n := by
  have := u8_of h
  omega
theorem decF_enc : ∀ (j m k n f : Nat) (r : Bs), m < 128 ^ (j + 1) → k + j < 9 → j < f → (k = 0 ∨ 0 < m) → decF f k n (enc m ++ r) = .ok (n + m * 128 ^ k) (k + (enc m).length)
  | j, m, k, n, 0, r, _, _, hf, _ => absurd hf (Nat.not_lt_zero _)
  | j, m, k, n, f + 1, r, hm, hk, hf, h0 => by
    by_cases hs : m < 128
    · rw [enc_lt hs]
      simp only [List.cons_append, List.nil_append, List.length_cons, List.length_nil]
      rw [decF]
      simp only [u8_toNat (n := m) (by omega)]
      rw [if_neg (by omega), if_pos hs, if_neg (by omega)]
    · match j, hm, hk, hf with
      | 0, hm, _, _ => exact absurd (by simpa using hm) hs
      | j + 1, hm, hk, hf =>
        rw [enc_ge hs]
        simp only [List.cons_append, List.length_cons]
        rw [decF]
        simp only [u8_toNat (n := 128 + m % 128) (by omega)]
        rw [if_neg (by omega), if_neg (by omega)]
        have hd : m / 128 < 128 ^ (j + 1) := by rw [Nat.div_lt_iff_lt_mul (by omega)]; rw [Nat.pow_succ] at hm; exact hm
        rw [decF_enc j (m / 128) (k + 1) _ f r hd (by omega) (by omega) (.inr (by omega))]
        have e1 : (128 + m % 128) % 128 = m % 128 := by omega
        have e2 : m = m % 128 + 128 * (m / 128) := by omega
        have e3 : m * 128 ^ k = m % 128 * 128 ^ k + m / 128 * 128 ^ (k + 1) := by
          rw [Nat.pow_succ, Nat.mul_comm (128 ^ k) 128, ← Nat.mul_assoc, ← Nat.add_mul, Nat.mul_comm (m / 128) 128, ← e2]
        rw [e1, e3]
        congr 1 <;> omega
theorem dec_enc {m : Nat} (h : m ≤ 20000) (r : Bs) : dec (enc m ++ r) = .ok m (enc m).length := by
  unfold dec
  rw [decF_enc 2 m 0 0 10 r (by omega) (by omega) (by omega) (.inl rfl)]
  simp
theorem nums_enc {m : Nat} (h : m ≤ 20000) : nums 20000 1 (enc m) = some ([m], []) := by
  have := dec_enc h []
  rw [List.append_nil] at this
  rw [nums, this]
  simp only
  rw [if_neg (by omega), List.drop_length, nums]
theorem nodeOf_enc {N : PNet} {m : Nat} (h : m ≤ 20000) : nodeOf N (enc m) = N[m]? := by
  unfold nodeOf
  rw [nums_enc h]
theorem enc_inj {m n : Nat} (h : enc m = enc n) (hm : m ≤ 20000) (hn : n ≤ 20000) : m = n := by
  have h1 := nums_enc hm
  rw [h, nums_enc hn] at h1
  injection h1 with h1
  injection h1 with h1 _
  injection h1 with h1 _
  exact h1.symm
def keyS (n : Nat) : ByteArray := ⟨(enc n).toArray⟩
theorem keyS_inj {m n : Nat} (h : keyS m = keyS n) (hm : m ≤ 20000) (hn : n ≤ 20000) : m = n := by
  unfold keyS at h
  injection h with h
  injection h with h
  exact enc_inj h hm hn
theorem keyS_list (n : Nat) : (keyS n).data.toList = enc n := rfl
theorem keyS_size {n : Nat} (h : n ≤ 20000) : (keyS n).size ≤ 3 := by
  have := enc_len 2 n (by omega)
  show (enc n).toArray.size ≤ 3
  simpa using this
end Go.Proofs.Ytpednhcfkjjcpaa
end
section
/- The numbers of the nodes that are met, as a map. -/
namespace Go.Proofs.Ytpednhcfkjjcpaa
open Go.RowKit Go.Maps
set_option linter.unusedVariables false
set_option linter.unusedSimpArgs false

structure NumD (D : DataW Unit) (st : List Nat) : Prop where
  isMap : IsMap D
  has : ∀ m, m ≤ 20000 → Maps.has D (.string (enc m)) = decide (m ∈ st)
  at_ : ∀ m, m ≤ 20000 → m ∈ st → ∀ z, D.atKey (.string (enc m)) z = .lit (.int .i64 (st.idxOf m : Int))
theorem NumD.nil : NumD (.map []) [] := ⟨isMap_empty, fun m _ => by simp [Maps.has], fun m _ h => by cases h⟩
theorem isKey_enc (m : Nat) : WideAt.IsKeyLit (.string (enc m)) := trivial
theorem NumD.put {D : DataW Unit} {st : List Nat} (h : NumD D st) {m : Nat} (hm : m ≤ 20000) (hn : m ∉ st) : NumD (D.put (.string (enc m)) (.lit (.int .i64 (st.length : Int)))) (st ++ [m]) := by
  refine ⟨h.isMap.put _ _, fun k hk => ?_, fun k hk hin z => ?_⟩
  · by_cases e : k = m
    · subst e
      rw [has_put_same h.isMap (isKey_enc k)]
      simp
    · rw [has_put_other (fun he => e (by injection he with he; exact enc_inj he hk hm)), h.has k hk]
      simp [e]
  · by_cases e : k = m
    · subst e
      rw [atKey_put_same h.isMap (isKey_enc k), List.idxOf_append, if_neg hn]
      simp
    · have hks : k ∈ st := by
        rcases List.mem_append.1 hin with h1 | h1
        · exact h1
        · rw [List.mem_singleton] at h1; exact absurd h1 e
      rw [atKey_put_other (fun he => e (by injection he with he; exact enc_inj he hk hm)), h.at_ k hk hks, List.idxOf_append, if_pos hks]
/-- The map in memory. -/
def NumV (w : World) (b n : Nat) (st : List Nat) : Prop := ∃ D : DataW Unit, w.ownsMap Try.prog 9 (plainElem Try.prog 3) b n D ∧ NumD D st
theorem str_keyed : Keyed Try.prog 9 := string_keyed Try.underlying9
theorem key_enc (m : Nat) (h : m ≤ 20000) : keyOf Try.prog 9 (.string (keyS m)) = some (.string (enc m)) := by
  have h1 := keyS_size h
  have h2 : (keyS m).size ≤ maxLen := by unfold maxLen; omega
  unfold keyOf mapKey
  rw [Try.underlying9]
  simp only
  rw [if_pos h2, keyS_list]
theorem NumV.alloc {w : World} {b n : Nat} {st : List Nat} (h : NumV w b n st) (o : Obj) : NumV (w.alloc o) b n st := by
  obtain ⟨D, h1, h2⟩ := h
  exact ⟨D, h1.alloc o, h2⟩
theorem NumV.set {w : World} {b n : Nat} {st : List Nat} (h : NumV w b n st) {p : Addr} (hp : b ≠ p.block) (v : Value) : NumV (w.setCell p v) b n st := by
  obtain ⟨D, h1, h2⟩ := h
  exact ⟨D, h1.setCell hp v, h2⟩
theorem NumV.of_eq {w w' : World} {b n : Nat} {st : List Nat} (h : NumV w b n st) (he : w'.heap[b]? = w.heap[b]?) : NumV w' b n st := by
  obtain ⟨D, ⟨es, clock, hb, F, hs, hD⟩, h2⟩ := h
  exact ⟨D, ⟨es, clock, he.trans hb, F, hs, hD⟩, h2⟩
theorem NumV.lt {w : World} {b n : Nat} {st : List Nat} (h : NumV w b n st) : b < w.heap.size := by
  obtain ⟨D, h1, _⟩ := h
  exact h1.lt
theorem NumV.ne {w : World} {b n g : Nat} {st : List Nat} {t : TypeId} {cs : List Value} (h : NumV w b n st) (hg : Holds w g t cs) : b ≠ g := by
  obtain ⟨D, ⟨es, clock, hb, _⟩, _⟩ := h
  rintro rfl
  unfold Holds at hg
  rw [hb] at hg
  cases hg
end Go.Proofs.Ytpednhcfkjjcpaa
end
section
/- The map's operations in the fenced walk. -/
namespace Go.Proofs.Ytpednhcfkjjcpaa
open Go.RowKit Go.Maps
set_option linter.unusedVariables false
set_option linter.unusedSimpArgs false

theorem plain_num (k : Nat) (h : k < 9223372036854775808) : plainElem (H := Unit) Try.prog 3 (.int .i64 (k : Int)) = some (.lit (.int .i64 (k : Int)), []) :=
  plainElem_int Try.underlying3 (by simp [Lit.wf, IntKind.min, IntKind.max, IntKind.signed, IntKind.bits]; omega)
section
variable {F : Fence} {n : Nat} {ops : Array Oper} {rest : List Oper} {o : Oper} {a : Act} {Q : Exit → Act → World → Prop} {w : World}
theorem NumV.update {b N k : Nat} {st : List Nat} (h : NumV w b N st) (hN : N < maxLen) (hk : k ≤ 20000) (hn : k ∉ st) (hl : st.length ≤ 20000) :
    ∃ w', (Instr.mapUpdate 90 (.map (some b)) (.string (keyS k)) (.int .i64 (st.length : Int))).run Try.prog w = .ok () w' ∧ NumV w' b (N + 1) (st ++ [k]) ∧ w.grownBy w' (some b) := by
  obtain ⟨D, h1, h2⟩ := h
  obtain ⟨w', hrun, r1, r2⟩ := h1.update str_keyed Try.underlying90 hN (key_enc k hk) (plain_num st.length (by omega))
  exact ⟨w', hrun, ⟨_, r1, h2.put hk hn⟩, r2⟩
theorem wpListIn_insert_num (hg : o.guard = none) (m x v : Operand) (hop : o.op = .insert 90 m x v ∨ o.op = .mapUpdate 90 m x v) (b N k : Nat) (st : List Nat)
    (hm : a.eval m = .map (some b)) (hx : a.eval x = .string (keyS k)) (hv : a.eval v = .int .i64 (st.length : Int)) (h : NumV w b N st) (hN : N < maxLen) (hk : k ≤ 20000) (hn : k ∉ st) (hl : st.length ≤ 20000)
    (hK : ∀ w', NumV w' b (N + 1) (st ++ [k]) → w.grownBy w' (some b) → wpListIn F n Try.prog ops Q rest (a.put o.dst undef) w') : wpListIn F n Try.prog ops Q (o :: rest) a w := by
  refine wpListIn_plain hg fun K' hK' => ?_
  obtain ⟨w', hrun, r1, r2⟩ := h.update hN hk hn hl
  unfold Oper.wpIn
  rcases hop with hop | hop
  · refine ⟨by simp [Oper.about, hop], ?_⟩
    rw [Oper.semAt_plain F _ _ (by rw [hop]; intro c hc'; cases hc')]
    simp [execOp, hop, hm, hx, hv, hrun, Result.andThen]
    exact hK' _ _ (hK w' r1 r2)
  · refine ⟨by simp [Oper.about, hop], ?_⟩
    rw [Oper.semAt_plain F _ _ (by rw [hop]; intro c hc'; cases hc')]
    simp [execOp, hop, hm, hx, hv, hrun, Result.andThen]
    exact hK' _ _ (hK w' r1 r2)
theorem wpListIn_look_num (hg : o.guard = none) (m x : Operand) (hop : o.op = .lookup 90 m x true) (b N k : Nat) (st : List Nat)
    (hm : a.eval m = .map (some b)) (hx : a.eval x = .string (keyS k)) (h : NumV w b N st) (hk : k ≤ 20000)
    (hK : ∀ c : Int, (k ∈ st → c = (st.idxOf k : Int)) → wpListIn F n Try.prog ops Q rest (a.put o.dst (.tuple #[.int .i64 c, .bool (decide (k ∈ st))])) w) : wpListIn F n Try.prog ops Q (o :: rest) a w := by
  obtain ⟨D, h1, h2⟩ := h
  refine wpListIn_lookup_own_ok_int w hg m x 90 hop 9 3 .i64 str_keyed Try.underlying90 Try.underlying3 (by kernel_rfl) b N D hm h1 _ _ hx (key_enc k hk) fun c hat hwf => ?_
  rw [h2.has k hk]
  refine hK c fun hin => ?_
  rw [h2.at_ k hk hin] at hat
  injection hat with hat
  injection hat with _ hat
  exact hat.symm
end
end Go.Proofs.Ytpednhcfkjjcpaa
end
