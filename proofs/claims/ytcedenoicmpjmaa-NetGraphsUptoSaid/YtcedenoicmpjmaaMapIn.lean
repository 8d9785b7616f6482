/- The map's operations in the fenced walk. -/
import Derived.Test.YtcedenoicmpjmaaMap
namespace Go.Proofs.Ytcedenoicmpjmaa
open Go.RowKit Go.Maps
set_option linter.unusedVariables false
set_option linter.unusedSimpArgs false

theorem plain_num (k : Nat) (h : k < 9223372036854775808) : plainElem (H := Unit) Try.prog 3 (.int .i64 (k : Int)) = some (.lit (.int .i64 (k : Int)), []) :=
  plainElem_int Try.underlying3 (by simp [Lit.wf, IntKind.min, IntKind.max, IntKind.signed, IntKind.bits]; omega)
section
variable {F : Fence} {n : Nat} {ops : Array Oper} {rest : List Oper} {o : Oper} {a : Act} {Q : Exit → Act → World → Prop} {w : World}
theorem NumV.update {b N k : Nat} {st : List Nat} (h : NumV w b N st) (hN : N < maxLen) (hk : k ≤ 20000) (hn : k ∉ st) (hl : st.length ≤ 20000) :
    ∃ w', (Instr.mapUpdate 84 (.map (some b)) (.string (keyS k)) (.int .i64 (st.length : Int))).run Try.prog w = .ok () w' ∧ NumV w' b (N + 1) (st ++ [k]) ∧ w.grownBy w' (some b) := by
  obtain ⟨D, h1, h2⟩ := h
  obtain ⟨w', hrun, r1, r2⟩ := h1.update str_keyed Try.underlying84 hN (key_enc k hk) (plain_num st.length (by omega))
  exact ⟨w', hrun, ⟨_, r1, h2.put hk hn⟩, r2⟩
theorem wpListIn_insert_num (hg : o.guard = none) (m x v : Operand) (hop : o.op = .insert 84 m x v ∨ o.op = .mapUpdate 84 m x v) (b N k : Nat) (st : List Nat)
    (hm : a.eval m = .map (some b)) (hx : a.eval x = .string (keyS k)) (hv : a.eval v = .int .i64 (st.length : Int)) (h : NumV w b N st) (hN : N < maxLen) (hk : k ≤ 20000) (hn : k ∉ st) (hl : st.length ≤ 20000)
    (hK : ∀ w', NumV w' b (N + 1) (st ++ [k]) → w.grownBy w' (some b) → wpListIn F n Try.prog ops Q rest (a.put o.dst undef) w') : wpListIn F n Try.prog ops Q (o :: rest) a w := by
  refine wpListIn_plain hg fun K' hK' => ?_
  obtain ⟨w', hrun, r1, r2⟩ := h.update hN hk hn hl
  unfold Oper.wpIn
  rcases hop with hop | hop
  · refine ⟨by simp [Oper.about, hop], ?_⟩
    rw [Oper.semAt_plain F _ _ (by rw [hop]; intro c hc'; cases hc')]
    simp [execOp, hop, hm, hx, hv, hrun, Result.andThen]
    exact hK' _ _ (hK w' r1 r2)
  · refine ⟨by simp [Oper.about, hop], ?_⟩
    rw [Oper.semAt_plain F _ _ (by rw [hop]; intro c hc'; cases hc')]
    simp [execOp, hop, hm, hx, hv, hrun, Result.andThen]
    exact hK' _ _ (hK w' r1 r2)
theorem wpListIn_look_num (hg : o.guard = none) (m x : Operand) (hop : o.op = .lookup 84 m x true) (b N k : Nat) (st : List Nat)
    (hm : a.eval m = .map (some b)) (hx : a.eval x = .string (keyS k)) (h : NumV w b N st) (hk : k ≤ 20000)
    (hK : ∀ c : Int, (k ∈ st → c = (st.idxOf k : Int)) → wpListIn F n Try.prog ops Q rest (a.put o.dst (.tuple #[.int .i64 c, .bool (decide (k ∈ st))])) w) : wpListIn F n Try.prog ops Q (o :: rest) a w := by
  obtain ⟨D, h1, h2⟩ := h
  refine wpListIn_lookup_own_ok_int w hg m x 84 hop 9 3 .i64 str_keyed Try.underlying84 Try.underlying3 (by kernel_rfl) b N D hm h1 _ _ hx (key_enc k hk) fun c hat hwf => ?_
  rw [h2.has k hk]
  refine hK c fun hin => ?_
  rw [h2.at_ k hk hin] at hat
  injection hat with hat
  injection hat with _ hat
  exact hat.symm
end
end Go.Proofs.Ytcedenoicmpjmaa
