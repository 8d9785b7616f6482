/- Turned arcs, plain: what is reached is the same. -/
import Derived.Test.YtokkjifmgmngjaaMov
namespace Go.Proofs.Ytokkjifmgmngjaa
open Go.RowKit
set_option linter.unusedVariables false
set_option linter.unusedSimpArgs false

def revX (x : PNode) : PNode := { x with arcs := x.arcs.reverse }
def lastN : PNode := ⟨[], 77, false, false, false⟩
def turnN (N : PNet) : PNet := N.map revX ++ [lastN]
theorem stepA_mem {most : Nat} {st st1 : List Nat} {a b : PArc} (h : stepA most st a = some (st1, b)) : st <+: st1 ∧ (a.bad = 0 → a.to.toNat ∈ st1) ∧ ∀ s ∈ st1, s ∈ st ∨ (a.bad = 0 ∧ s = a.to.toNat) := by
  unfold stepA at h
  split at h
  · rename_i hb
    split at h
    · rename_i hin
      injection h with h; injection h with h _; subst h
      exact ⟨List.prefix_refl _, fun _ => hin, fun s hs => .inl hs⟩
    · split at h
      · cases h
      · injection h with h; injection h with h _; subst h
        exact ⟨List.prefix_append _ _, fun _ => by simp, fun s hs => (List.mem_append.1 hs).imp id fun h => ⟨hb, by simpa using h⟩⟩
  · rename_i hb
    injection h with h; injection h with h _; subst h
    exact ⟨List.prefix_refl _, fun h0 => absurd h0 hb, fun s hs => .inl hs⟩
theorem stepAs_mem {most : Nat} : ∀ {l : List PArc} {st st1 : List Nat} {bs : List PArc}, stepAs most st l = some (st1, bs) → st <+: st1 ∧ (∀ a ∈ l, a.bad = 0 → a.to.toNat ∈ st1) ∧ (∀ s ∈ st1, s ∈ st ∨ ∃ a ∈ l, a.bad = 0 ∧ s = a.to.toNat) ∧ bs.length = l.length
  | [], st, st1, bs, h => by
    rw [stepAs] at h; injection h with h; injection h with h h'; subst h; subst h'
    exact ⟨List.prefix_refl _, (fun a ha => by cases ha), fun s hs => .inl hs, rfl⟩
  | a :: l, st, st1, bs, h => by
    rw [stepAs] at h
    split at h
    · cases h
    · rename_i st' b e1
      split at h
      · cases h
      · rename_i st2 bs2 e2
        injection h with h; injection h with h h'; subst h; subst h'
        obtain ⟨p1, p2, p3⟩ := stepA_mem e1
        obtain ⟨q1, q2, q3, q4⟩ := stepAs_mem e2
        refine ⟨p1.trans q1, fun c hc hb => ?_, fun s hs => ?_, by simp [q4]⟩
        · rcases List.mem_cons.1 hc with rfl | hc
          · exact q1.subset (p2 hb)
          · exact q2 c hc hb
        · rcases q3 s hs with h1 | ⟨c, hc, hb, he⟩
          · rcases p3 s h1 with h2 | ⟨hb, he⟩
            · exact .inl h2
            · exact .inr ⟨a, by simp, hb, he⟩
          · exact .inr ⟨c, by simp [hc], hb, he⟩
/-- What is reached from what has been met: closed; nothing beyond; and what is told of each. -/
theorem exF_reach {N : PNet} {most : Nat} : ∀ {fu i : Nat} {st st1 : List Nat} {out : PNet}, exF N most fu i st = some (st1, out) → i ≤ st.length →
    st <+: st1 ∧ (∀ (j : Nat) (hj : j < st1.length), i ≤ j → ∃ x, N[st1[j]]? = some x ∧ (∀ a ∈ x.arcs, a.bad = 0 → a.to.toNat ∈ st1) ∧ ∃ y, out[j - i]? = some y ∧ y.props = x.props ∧ y.arcs.length = x.arcs.length) ∧
    ∀ Q : Nat → Prop, (∀ s ∈ st, Q s) → (∀ s x, Q s → N[s]? = some x → ∀ a ∈ x.arcs, a.bad = 0 → Q a.to.toNat) → ∀ s ∈ st1, Q s
  | 0, i, st, st1, out, h, hi => by rw [exF] at h; cases h
  | fu + 1, i, st, st1, out, h, hi => by
    rw [exF] at h
    split at h
    · rename_i h0
      injection h with h; injection h with h h'; subst h; subst h'
      have := List.getElem?_eq_none_iff.1 h0
      exact ⟨List.prefix_refl _, fun j hj hij => by omega, fun Q hQ _ => hQ⟩
    · rename_i s h0
      have hil := (List.getElem?_eq_some_iff.1 h0).1
      have hs0 := (List.getElem?_eq_some_iff.1 h0).2
      split at h
      · cases h
      · rename_i x hx
        split at h
        · cases h
        · rename_i st' bs h1
          split at h
          · cases h
          · rename_i st2 out2 h2
            injection h with h; injection h with h h'; subst h; subst h'
            obtain ⟨p1, p2, p3, p4⟩ := stepAs_mem h1
            have hl := p1.length_le
            obtain ⟨q1, q2, q3⟩ := exF_reach h2 (by omega)
            refine ⟨p1.trans q1, fun j hj hij => ?_, fun Q hQ hc => ?_⟩
            · by_cases e : j = i
              · subst e
                have hp := p1.trans q1
                have he : st2[j] = s := by rw [← hs0]; exact (hp.getElem hil).symm
                refine ⟨x, by rw [he]; exact hx, fun a ha hb => q1.subset (p2 a ha hb), { x with arcs := bs }, by rw [Nat.sub_self]; rfl, rfl, p4⟩
              · obtain ⟨y, h3, h4, z, h5, h6⟩ := q2 j hj (by omega)
                refine ⟨y, h3, h4, z, ?_, h6⟩
                rw [show j - i = (j - (i + 1)) + 1 by omega, List.getElem?_cons_succ]
                exact h5
            · refine q3 Q (fun t ht => ?_) hc
              rcases p3 t ht with h3 | ⟨a, ha, hb, rfl⟩
              · exact hQ t h3
              · exact hc s x (hQ s (by rw [← hs0]; exact List.getElem_mem _)) hx a ha hb
theorem turn_len (N : PNet) : (turnN N).length = N.length + 1 := by simp [turnN]
theorem turn_at {N : PNet} {s : Nat} (h : s < N.length) : (turnN N)[s]? = some (revX N[s]) := by
  unfold turnN
  rw [List.getElem?_append_left (by simpa using h), List.getElem?_map, List.getElem?_eq_getElem h]
  rfl
theorem turn_back {N : PNet} {s : Nat} {x : PNode} (h : (turnN N)[s]? = some x) (hs : s < N.length) : ∃ y, N[s]? = some y ∧ x = revX y := by
  rw [turn_at hs] at h
  injection h with h
  exact ⟨_, List.getElem?_eq_getElem hs, h.symm⟩
theorem total_app : ∀ (a b : PNet), total (a ++ b) = total a + total b
  | [], b => by simp [total]
  | x :: a, b => by
    have := total_app a b
    simp only [total, List.cons_append, List.map_cons, List.sum_cons] at this ⊢
    omega
theorem total_rev : ∀ (a : PNet), total (a.map revX) = total a
  | [] => rfl
  | x :: a => by
    have := total_rev a
    simp only [total, List.map_cons, List.sum_cons] at this ⊢
    rw [this]
    simp [revX]
theorem turn_chk {N : PNet} (hN : chk N = true) (hl : N.length < 20000) : chk (turnN N) = true := by
  unfold chk at hN ⊢
  simp only [Bool.and_eq_true, decide_eq_true_eq] at hN ⊢
  obtain ⟨⟨⟨n1, n2⟩, n3⟩, n4⟩ := hN
  rw [turn_len]
  refine ⟨⟨⟨by omega, by omega⟩, List.all_eq_true.2 fun x hx => List.all_eq_true.2 fun a ha => ?_⟩, ?_⟩
  · unfold turnN at hx
    rcases List.mem_append.1 hx with hx | hx
    · obtain ⟨y, hy, rfl⟩ := List.mem_map.1 hx
      have h1 := List.all_eq_true.1 (List.all_eq_true.1 n3 y hy) a (by simpa [revX] using ha)
      exact chkArc_mono h1 (by omega)
    · rw [List.mem_singleton] at hx
      subst hx
      cases ha
  · unfold turnN
    rw [total_app, total_rev]
    simp only [total, List.map_cons, List.map_nil, List.sum_cons, List.sum_nil, lastN, List.length_nil] at n4 ⊢
    omega
theorem ex_ok {N : PNet} (hN : chk N = true) : ∃ st g, exF N 20000 20001 0 [0] = some (st, g) ∧ Met N.length st ∧ g.length = st.length := by
  obtain ⟨st, g, h1, h2, h3, h4, h5, h6⟩ := again hN
  exact ⟨st, g, h1, h4, h2.symm⟩
theorem nodup_sub : ∀ (a b : List Nat), a.Nodup → (∀ x ∈ a, x ∈ b) → a.length ≤ b.length
  | [], b, _, _ => Nat.zero_le _
  | x :: a, b, hd, h => by
    obtain ⟨h1, h2⟩ := List.nodup_cons.1 hd
    have hx := h x (by simp)
    have h3 := nodup_sub a (b.erase x) h2 fun y hy => (List.mem_erase_of_ne (by rintro rfl; exact h1 hy)).2 (h y (by simp [hy]))
    rw [List.length_erase_of_mem hx] at h3
    have := List.length_pos_of_mem hx
    simp only [List.length_cons]
    omega
/-- The law of turned arcs. -/
theorem turned {N : PNet} (hN : chk N = true) (hl : N.length < 20000) : ∃ st g st' g', exF N 20000 20001 0 [0] = some (st, g) ∧ exF (turnN N) 20000 20001 0 [0] = some (st', g') ∧ 0 < st.length ∧ st'.length = st.length ∧ g.length = st.length ∧ g'.length = st.length ∧ (∀ s ∈ st, s ≤ 20000) ∧ (∀ s ∈ st', s ≤ 20000) ∧
    ∀ (j : Nat) (hj : j < st.length), ∃ m, m < st.length ∧ st'[m]? = some st[j] ∧ ∃ x y, g[j]? = some x ∧ g'[m]? = some y ∧ x.arcs.length = y.arcs.length ∧ x.props = y.props := by
  obtain ⟨st, g, h1, hm, hg⟩ := ex_ok hN
  obtain ⟨st', g', h1', hm', hg'⟩ := ex_ok (turn_chk hN hl)
  rw [turn_len] at hm'
  obtain ⟨a1, a2, a3⟩ := exF_reach h1 (by simp)
  obtain ⟨b1, b2, b3⟩ := exF_reach h1' (by simp)
  have h0 : ∀ s ∈ st, s ∈ st' := a3 (· ∈ st') (fun s hs => b1.subset hs) fun s x hs hx a ha hb => by
    obtain ⟨j, hj, rfl⟩ := List.getElem_of_mem hs
    obtain ⟨y, h3, h4, _⟩ := b2 j hj (by omega)
    have hlt := (List.getElem?_eq_some_iff.1 hx).1
    rw [turn_at hlt] at h3
    injection h3 with h3
    subst h3
    have hxe := (List.getElem?_eq_some_iff.1 hx).2
    exact h4 a (by simp only [revX, List.mem_reverse]; rw [hxe]; exact ha) hb
  have h0' : ∀ s ∈ st', s ∈ st := b3 (· ∈ st) (fun s hs => a1.subset hs) fun s x hs hx a ha hb => by
    obtain ⟨y, hy, rfl⟩ := turn_back hx (hm.lt s hs)
    obtain ⟨j, hj, rfl⟩ := List.getElem_of_mem hs
    obtain ⟨z, h3, h4, _⟩ := a2 j hj (by omega)
    rw [hy] at h3
    injection h3 with h3
    subst h3
    exact h4 a (by simpa [revX] using ha) hb
  have e1 : st.length ≤ st'.length := nodup_sub _ _ hm.nodup h0
  have e2 : st'.length ≤ st.length := nodup_sub _ _ hm'.nodup h0'
  have hN2 := hN
  unfold chk at hN2
  simp only [Bool.and_eq_true, decide_eq_true_eq] at hN2
  refine ⟨st, g, st', g', h1, h1', hm.pos, by omega, hg, by omega, fun s hs => by have := hm.lt s hs; omega, fun s hs => by have := hm'.lt s hs; omega, fun j hj => ?_⟩
  obtain ⟨m, hmm, he⟩ := List.getElem_of_mem (h0 _ (List.getElem_mem hj))
  obtain ⟨x, c1, _, y, c2, c3, c4⟩ := a2 j hj (by omega)
  obtain ⟨x', d1, _, y', d2, d3, d4⟩ := b2 m hmm (by omega)
  rw [he] at d1
  obtain ⟨z, hz, rfl⟩ := turn_back d1 (hm.lt _ (List.getElem_mem hj))
  rw [c1] at hz
  injection hz with hz
  subst hz
  rw [Nat.sub_zero] at c2 d2
  exact ⟨m, by omega, by rw [List.getElem?_eq_getElem hmm, he], y, y', c2, d2, by rw [c4, d4]; simp [revX], by rw [c3, d3]; rfl⟩
end Go.Proofs.Ytokkjifmgmngjaa
