/- The statements' explores at any system. -/
import Derived.Test.YtpednhcfkjjcpaaGew
import Derived.Test.YtpednhcfkjjcpaaMg5
namespace Go.Proofs.Ytpednhcfkjjcpaa.G
open Go.RowKit Go.Maps
set_option linter.unusedVariables false
set_option linter.unusedSimpArgs false

theorem stepA_of {most : Nat} {st st1 : List ByteArray} {a : PMove} {b : PArc} (hs : stepA most st a = some (st1, b)) : b.reads = a.reads ∧ b.writes = a.writes := by
  unfold stepA at hs
  split at hs
  · split at hs
    · injection hs with hs; injection hs with _ hs; subst hs; exact ⟨rfl, rfl⟩
    · split at hs
      · cases hs
      · injection hs with hs; injection hs with _ hs; subst hs; exact ⟨rfl, rfl⟩
  · injection hs with hs; injection hs with _ hs; subst hs; exact ⟨rfl, rfl⟩
theorem stepAs_of {most : Nat} : ∀ {l : List PMove} {c : Nat} {st st1 : List ByteArray} {bs : List PArc}, stepAs most c st l = some (st1, bs) → ∀ b ∈ bs, ∃ a ∈ l, b.reads = a.reads ∧ b.writes = a.writes
  | [], c, st, st1, bs, hs => by
    rw [stepAs] at hs; injection hs with hs; injection hs with hs hs'; subst hs'; intro b hb; cases hb
  | a :: l, c, st, st1, bs, hs => by
    rw [stepAs] at hs
    split at hs
    · cases hs
    · rename_i st' b e1
      by_cases hc : 262144 < c + 1
      · rw [if_pos hc] at hs; cases hs
      · rw [if_neg hc] at hs
        split at hs
        · cases hs
        · rename_i st2 bs2 e2
          injection hs with hs; injection hs with hs hs'; subst hs'
          intro x hx
          rcases List.mem_cons.1 hx with rfl | hx
          · exact ⟨a, by simp, stepA_of e1⟩
          · obtain ⟨a', h1, h2⟩ := stepAs_of e2 x hx
            exact ⟨a', List.mem_cons_of_mem _ h1, h2⟩
theorem exF_small {S : Sys} (hS : SmallS S) {most : Nat} : ∀ (fu i c : Nat) {st st2 : List ByteArray} {g : PNet}, Met most st → i ≤ st.length → c ≤ 262144 → exF S most fu i c st = some (st2, g) →
    Met most st2 ∧ i + g.length = st2.length ∧ c + total g ≤ 262144 ∧ ∀ x ∈ g, ∀ a ∈ x.arcs, a.reads.length ≤ 2000000 ∧ a.writes.length ≤ 2000000
  | 0, i, c, st, st2, g, hm, hi, hc, h => by rw [exF] at h; cases h
  | fu + 1, i, c, st, st2, g, hm, hi, hc, h => by
    rw [exF] at h
    split at h
    · rename_i e
      injection h with h; injection h with h h'; subst h; subst h'
      have := List.getElem?_eq_none_iff.1 e
      exact ⟨hm, by simp; omega, by simpa [total] using hc, by simp⟩
    · rename_i s e
      obtain ⟨hl, hs⟩ := List.getElem?_eq_some_iff.1 e
      have hsz : s.size ≤ 1048576 := by rw [← hs]; exact hm.size _ (List.getElem_mem hl)
      split at h
      · cases h
      · rename_i st1 bs e1
        obtain ⟨h1, h2, h3, h4⟩ := stepAs_met hm (fun a ha => hS.dsts s hsz a ha) e1
        have h5 := h2.length_le
        split at h
        · cases h
        · rename_i st3 out e2
          injection h with h; injection h with h h'; subst h; subst h'
          obtain ⟨q1, q2, q3, q4⟩ := exF_small hS fu (i + 1) (c + (S.next s).length) h1 (by omega) (h4 hc) e2
          refine ⟨q1, by rw [List.length_cons]; omega, by simp only [total, List.map_cons, List.sum_cons] at q3 ⊢; omega, fun x hx a ha => ?_⟩
          rcases List.mem_cons.1 hx with rfl | hx
          · obtain ⟨a', k1, k2, k3⟩ := stepAs_of e1 a ha
            rw [k2, k3]
            exact hS.reads s hsz a' k1
          · exact q4 x hx a ha
theorem exF_fit {S : Sys} (hS : SmallS S) {most : Nat} (h1 : 1 ≤ most) (h2 : most ≤ 20000) {st : List ByteArray} {g : PNet} (h : exF S most 20001 0 0 [S.beg] = some (st, g)) : Small g ∧ g.length = st.length ∧ st.length ≤ 20000 := by
  obtain ⟨q1, q2, q3, q4⟩ := exF_small hS 20001 0 0 (by refine ⟨by simp, by simpa using hS.beg, by simp; omega⟩) (Nat.zero_le _) (Nat.zero_le _) h
  have := q1.len
  refine ⟨⟨by omega, by omega, fun i hi j hj => q4 _ (List.getElem_mem hi) _ (List.getElem_mem hj)⟩, by omega, by omega⟩
/-- Explore refuses. -/
def BadPost (w : World) (e : Ending) (w' : World) : Prop := e = .returned (.tuple #[.agg #[.slice none 0 0], .slice none 0 0, .int .i64 1]) ∧ Below w.heap.size w w'
end Go.Proofs.Ytpednhcfkjjcpaa.G
