/- Exploring a graph, plain. -/
import Derived.Test.YtpednhcfkjjcpaaNode
namespace Go.Proofs.Ytpednhcfkjjcpaa
open Go.RowKit
set_option linter.unusedVariables false
set_option linter.unusedSimpArgs false

def PArc.goes (a : PArc) (t : Int) : PArc := ⟨a.proc, t, a.bad, a.reads, a.writes, a.turns⟩
def stepA (most : Nat) (st : List Nat) (a : PArc) : Option (List Nat × PArc) :=
  if a.bad = 0 then
    if a.to.toNat ∈ st then some (st, a.goes ((st.idxOf a.to.toNat : Int)))
    else if st.length = most then none else some (st ++ [a.to.toNat], a.goes ((st.length : Int)))
  else some (st, a.goes (0))
def stepAs (most : Nat) : List Nat → List PArc → Option (List Nat × List PArc)
  | st, [] => some (st, [])
  | st, a :: l => match stepA most st a with
    | none => none
    | some (st1, b) => match stepAs most st1 l with
      | none => none
      | some (st2, bs) => some (st2, b :: bs)
def exF (N : PNet) (most : Nat) : Nat → Nat → List Nat → Option (List Nat × PNet)
  | 0, _, _ => none
  | fu + 1, i, st => match st[i]? with
    | none => some (st, [])
    | some s => match N[s]? with
      | none => none
      | some x => match stepAs most st x.arcs with
        | none => none
        | some (st1, bs) => match exF N most fu (i + 1) st1 with
          | none => none
          | some (st2, out) => some (st2, { x with arcs := bs } :: out)
theorem nodup_bound : ∀ (n : Nat) (l : List Nat), l.Nodup → (∀ x ∈ l, x < n) → l.length ≤ n
  | 0, [], _, _ => Nat.le_refl _
  | 0, a :: l, _, h => absurd (h a (by simp)) (Nat.not_lt_zero _)
  | n + 1, l, hd, h => by
    by_cases hm : n ∈ l
    · have h1 := nodup_bound n (l.erase n) (hd.erase n) (fun x hx => by
        obtain ⟨h2, h3⟩ := (hd.mem_erase_iff).1 hx
        have := h x h3
        omega)
      rw [List.length_erase_of_mem hm] at h1
      omega
    · have h1 := nodup_bound n l hd (fun x hx => by
        have := h x hx
        have : x ≠ n := fun e => hm (e ▸ hx)
        omega)
      omega
def arcsAt (N : PNet) (s : Nat) : Nat := (N.getD s zeroN).arcs.length
theorem sum_bound (N : PNet) : ∀ (n : Nat) (l : List Nat), n ≤ N.length → l.Nodup → (∀ x ∈ l, x < n) → (l.map (arcsAt N)).sum ≤ total (N.take n)
  | 0, [], _, _, _ => Nat.zero_le _
  | 0, a :: l, _, _, h => absurd (h a (by simp)) (Nat.not_lt_zero _)
  | n + 1, l, hn, hd, h => by
    have ht := total_take (n := N) (k := n) (by omega)
    by_cases hm : n ∈ l
    · have h1 := sum_bound N n (l.erase n) (by omega) (hd.erase n) (fun x hx => by
        obtain ⟨h2, h3⟩ := (hd.mem_erase_iff).1 hx
        have := h x h3
        omega)
      have h2 := ((List.perm_cons_erase hm).map (arcsAt N)).sum_nat
      simp only [List.map_cons, List.sum_cons] at h2
      have h3 : arcsAt N n = N[n].arcs.length := by
        unfold arcsAt
        rw [List.getD_eq_getElem?_getD, List.getElem?_eq_getElem (by omega)]
        rfl
      omega
    · have h1 := sum_bound N n l (by omega) hd (fun x hx => by
        have := h x hx
        have : x ≠ n := fun e => hm (e ▸ hx)
        omega)
      omega
theorem range_idxOf : ∀ (n j : Nat), j < n → (List.range n).idxOf j = j
  | n + 1, j, h => by
    rw [List.range_succ, List.idxOf_append]
    by_cases hj : j < n
    · rw [if_pos (List.mem_range.2 hj), range_idxOf n j hj]
    · obtain rfl : j = n := by omega
      rw [if_neg (by simp)]
      simp
theorem stepA_old {most : Nat} {st : List Nat} {a : PArc} (hb : a.bad = 0) (h : a.to.toNat ∈ st) : stepA most st a = some (st, a.goes (st.idxOf a.to.toNat : Int)) := by
  unfold stepA
  rw [if_pos hb, if_pos h]
theorem stepA_new {most : Nat} {st : List Nat} {a : PArc} (hb : a.bad = 0) (h : ¬ a.to.toNat ∈ st) (hm : ¬ st.length = most) : stepA most st a = some (st ++ [a.to.toNat], a.goes (st.length : Int)) := by
  unfold stepA
  rw [if_pos hb, if_neg h, if_neg hm]
theorem stepA_bad {most : Nat} {st : List Nat} {a : PArc} (hb : ¬ a.bad = 0) : stepA most st a = some (st, a.goes 0) := by
  unfold stepA
  rw [if_neg hb]
theorem stepA_len {most : Nat} {st st1 : List Nat} {a b : PArc} (h : stepA most st a = some (st1, b)) : st.length ≤ st1.length := by
  unfold stepA at h
  split at h
  · split at h
    · injection h with h; injection h with h _; subst h; exact Nat.le_refl _
    · split at h
      · cases h
      · injection h with h; injection h with h _; subst h; simp
  · injection h with h; injection h with h _; subst h; exact Nat.le_refl _
theorem stepAs_len {most : Nat} : ∀ {l : List PArc} {st st1 : List Nat} {bs : List PArc}, stepAs most st l = some (st1, bs) → st.length ≤ st1.length
  | [], st, st1, bs, h => by
    rw [stepAs] at h; injection h with h; injection h with h _; subst h; exact Nat.le_refl _
  | a :: l, st, st1, bs, h => by
    rw [stepAs] at h
    split at h
    · cases h
    · rename_i st' b h1
      split at h
      · cases h
      · rename_i st2 bs2 h2
        injection h with h; injection h with h _; subst h
        exact Nat.le_trans (stepA_len h1) (stepAs_len h2)
theorem exF_len {N : PNet} {most : Nat} : ∀ {fu i : Nat} {st st1 : List Nat} {out : PNet}, exF N most fu i st = some (st1, out) → st.length ≤ st1.length ∧ (i ≤ st.length → st1.length = i + out.length)
  | 0, i, st, st1, out, h => by rw [exF] at h; cases h
  | fu + 1, i, st, st1, out, h => by
    rw [exF] at h
    split at h
    · rename_i h0
      injection h with h; injection h with h h'; subst h; subst h'
      have := List.getElem?_eq_none_iff.1 h0
      exact ⟨Nat.le_refl _, fun hi => by simp; omega⟩
    · rename_i s h0
      have hi := (List.getElem?_eq_some_iff.1 h0).1
      split at h
      · cases h
      · split at h
        · cases h
        · rename_i st' bs h1
          split at h
          · cases h
          · rename_i st2 out2 h2
            injection h with h; injection h with h h'; subst h; subst h'
            have l1 := stepAs_len h1
            obtain ⟨l2, l3⟩ := exF_len h2
            exact ⟨by omega, fun _ => by have := l3 (by omega); simp; omega⟩
/-- What is explored again is met in the same order. -/
theorem stepA_again {most most2 : Nat} {st st1 : List Nat} {a b : PArc} (h : stepA most st a = some (st1, b)) (hm : st1.length ≤ most2) : stepA most2 (List.range st.length) b = some (List.range st1.length, b) := by
  unfold stepA at h
  split at h
  · rename_i hb
    split at h
    · rename_i hin
      injection h with h; injection h with h h'; subst h; subst h'
      have hj : st.idxOf a.to.toNat < st.length := List.idxOf_lt_length_of_mem hin
      refine (stepA_old (a := a.goes (st.idxOf a.to.toNat : Int)) hb (List.mem_range.2 hj)).trans ?_
      show some (_, a.goes ((List.range st.length).idxOf (st.idxOf a.to.toNat) : Int)) = _
      rw [range_idxOf _ _ hj]
    · split at h
      · cases h
      · injection h with h; injection h with h h'; subst h; subst h'
        simp only [List.length_append, List.length_cons, List.length_nil, Nat.zero_add] at hm
        refine (stepA_new (most := most2) (st := List.range st.length) (a := a.goes (st.length : Int)) hb (fun hh => Nat.lt_irrefl _ (List.mem_range.1 hh)) (by rw [List.length_range]; omega)).trans ?_
        show some (List.range st.length ++ [st.length], a.goes ((List.range st.length).length : Int)) = _
        rw [List.length_range, List.length_append, List.length_cons, List.length_nil, List.range_succ]
  · rename_i hb
    injection h with h; injection h with h h'; subst h; subst h'
    exact stepA_bad (a := a.goes 0) hb
theorem stepAs_again {most most2 : Nat} : ∀ {l : List PArc} {st st1 : List Nat} {bs : List PArc}, stepAs most st l = some (st1, bs) → st1.length ≤ most2 → stepAs most2 (List.range st.length) bs = some (List.range st1.length, bs)
  | [], st, st1, bs, h, hm => by
    rw [stepAs] at h; injection h with h; injection h with h h'; subst h; subst h'; rw [stepAs]
  | a :: l, st, st1, bs, h, hm => by
    rw [stepAs] at h
    split at h
    · cases h
    · rename_i st' b h1
      split at h
      · cases h
      · rename_i st2 bs2 h2
        injection h with h; injection h with h h'; subst h; subst h'
        have := stepAs_len h2
        rw [stepAs, stepA_again h1 (by omega)]
        simp only
        rw [stepAs_again h2 hm]
theorem exF_again {N g : PNet} {most most2 : Nat} : ∀ {fu i : Nat} {st st1 : List Nat} {out : PNet}, exF N most fu i st = some (st1, out) → g.drop i = out → st1.length ≤ most2 → exF g most2 fu i (List.range st.length) = some (List.range st1.length, out)
  | 0, i, st, st1, out, h, hg, hm => by rw [exF] at h; cases h
  | fu + 1, i, st, st1, out, h, hg, hm => by
    rw [exF] at h
    split at h
    · rename_i h0
      injection h with h; injection h with h h'; subst h; subst h'
      have := List.getElem?_eq_none_iff.1 h0
      rw [exF, List.getElem?_eq_none (by simpa using this)]
    · rename_i s h0
      have hi := (List.getElem?_eq_some_iff.1 h0).1
      split at h
      · cases h
      · rename_i x hx
        split at h
        · cases h
        · rename_i st' bs h1
          split at h
          · cases h
          · rename_i st2 out2 h2
            injection h with h; injection h with h h'; subst h; subst h'
            have hl := exF_len h2
            have hg0 : g[i]? = some { x with arcs := bs } := by
              have : (g.drop i)[0]? = some { x with arcs := bs } := by rw [hg]; rfl
              rwa [List.getElem?_drop, Nat.add_zero] at this
            have hgd : g.drop (i + 1) = out2 := by
              rw [← List.drop_drop, hg]; rfl
            rw [exF, List.getElem?_range hi]
            simp only
            rw [hg0]
            simp only
            rw [stepAs_again h1 (by omega)]
            simp only
            rw [exF_again h2 hgd hm]
theorem chkArc_goes {n m : Nat} {a : PArc} {t : Int} (h : chkArc n a = true) (h0 : 0 ≤ t) (h1 : t < (m : Int)) (hb : a.bad = 0 ∨ t = 0) : chkArc m (a.goes t) = true := by
  unfold chkArc at h ⊢
  simp only [Bool.and_eq_true, decide_eq_true_eq, Bool.or_eq_true, beq_iff_eq] at h ⊢
  obtain ⟨⟨⟨⟨⟨⟨⟨⟨h1', h2⟩, h3⟩, h4⟩, h5⟩, h6⟩, h7⟩, h8⟩, h9⟩ := h
  exact ⟨⟨⟨⟨⟨⟨⟨⟨h1', h2⟩, h3⟩, h4⟩, h5⟩, h6⟩, h0⟩, h1⟩, hb⟩
theorem chkArc_mono {n m : Nat} {a : PArc} (h : chkArc n a = true) (hm : n ≤ m) : chkArc m a = true := by
  unfold chkArc at h ⊢
  simp only [Bool.and_eq_true, decide_eq_true_eq, Bool.or_eq_true, beq_iff_eq] at h ⊢
  obtain ⟨⟨⟨⟨⟨⟨⟨⟨h1', h2⟩, h3⟩, h4⟩, h5⟩, h6⟩, h7⟩, h8⟩, h9⟩ := h
  exact ⟨⟨⟨⟨⟨⟨⟨⟨h1', h2⟩, h3⟩, h4⟩, h5⟩, h6⟩, h7⟩, by omega⟩, h9⟩
theorem chkArc_to {n : Nat} {a : PArc} (h : chkArc n a = true) : 0 ≤ a.to ∧ a.to < (n : Int) := by
  unfold chkArc at h
  simp only [Bool.and_eq_true, decide_eq_true_eq, Bool.or_eq_true, beq_iff_eq] at h
  obtain ⟨⟨⟨⟨⟨⟨⟨⟨h1', h2⟩, h3⟩, h4⟩, h5⟩, h6⟩, h7⟩, h8⟩, h9⟩ := h
  exact ⟨h7, h8⟩
/-- The nodes that are met: unlike, and nodes of the graph. -/
structure Met (n : Nat) (st : List Nat) : Prop where
  nodup : st.Nodup
  lt : ∀ x ∈ st, x < n
  pos : 0 < st.length
theorem stepA_ok {n most : Nat} {st : List Nat} {a : PArc} (h : Met n st) (hm : n ≤ most) (ha : chkArc n a = true) : ∃ st1 b, stepA most st a = some (st1, b) ∧ Met n st1 ∧ st <+: st1 ∧ chkArc st1.length b = true := by
  have hto := chkArc_to ha
  by_cases hb : a.bad = 0
  · by_cases hin : a.to.toNat ∈ st
    · refine ⟨_, _, stepA_old hb hin, h, List.prefix_refl _, chkArc_goes ha (by omega) ?_ (.inl hb)⟩
      have := List.idxOf_lt_length_of_mem hin
      omega
    · have hM : Met n (st ++ [a.to.toNat]) := by
        refine ⟨?_, ?_, by simp⟩
        · rw [List.nodup_append]
          refine ⟨h.nodup, by simp, fun x hx y hy e => ?_⟩
          rw [List.mem_singleton] at hy
          exact hin (by rw [← hy, ← e]; exact hx)
        · intro x hx
          rcases List.mem_append.1 hx with hx | hx
          · exact h.lt x hx
          · rw [List.mem_singleton] at hx; omega
      have hl := nodup_bound n _ hM.nodup hM.lt
      rw [List.length_append, List.length_cons, List.length_nil] at hl
      refine ⟨_, _, stepA_new hb hin (by omega), hM, List.prefix_append _ _, chkArc_goes ha (by omega) ?_ (.inl hb)⟩
      simp
      omega
  · refine ⟨_, _, stepA_bad hb, h, List.prefix_refl _, chkArc_goes ha (by omega) ?_ (.inr rfl)⟩
    have := h.pos
    omega
theorem stepAs_ok {n most : Nat} : ∀ {l : List PArc} {st : List Nat}, Met n st → n ≤ most → (∀ a ∈ l, chkArc n a = true) → ∃ st1 bs, stepAs most st l = some (st1, bs) ∧ Met n st1 ∧ st <+: st1 ∧ bs.length = l.length ∧ ∀ b ∈ bs, chkArc st1.length b = true
  | [], st, h, hm, ha => ⟨st, [], by rw [stepAs], h, List.prefix_refl _, rfl, fun b hb => by cases hb⟩
  | a :: l, st, h, hm, ha => by
    obtain ⟨st1, b, h1, h2, h3, h4⟩ := stepA_ok h hm (ha a (by simp))
    obtain ⟨st2, bs, k1, k2, k3, k4, k5⟩ := stepAs_ok (l := l) h2 hm (fun x hx => ha x (by simp [hx]))
    refine ⟨st2, b :: bs, by rw [stepAs, h1]; simp only; rw [k1], k2, h3.trans k3, by simp [k4], fun x hx => ?_⟩
    rcases List.mem_cons.1 hx with rfl | hx
    · exact chkArc_mono h4 k3.length_le
    · exact k5 x hx
theorem exF_ok {N : PNet} {most : Nat} (hN : chk N = true) (hm : N.length ≤ most) : ∀ {fu i : Nat} {st : List Nat}, Met N.length st → N.length < fu + i → i ≤ st.length →
    ∃ st1 out, exF N most fu i st = some (st1, out) ∧ Met N.length st1 ∧ st <+: st1 ∧ (∀ x ∈ out, ∀ b ∈ x.arcs, chkArc st1.length b = true) ∧ total out = ((st1.drop i).map (arcsAt N)).sum
  | 0, i, st, h, hf, hi => by
    have := nodup_bound _ _ h.nodup h.lt
    omega
  | fu + 1, i, st, h, hf, hi => by
    by_cases hil : i < st.length
    · have hs := h.lt _ (List.getElem_mem hil)
      have hall : ∀ a ∈ N[st[i]].arcs, chkArc N.length a = true := fun a ha => by
        unfold chk at hN
        simp only [Bool.and_eq_true] at hN
        have h1 := List.all_eq_true.1 hN.1.2 N[st[i]] (List.getElem_mem hs)
        exact List.all_eq_true.1 h1 a ha
      obtain ⟨st1, bs, h1, h2, h3, h4, h5⟩ := stepAs_ok h hm hall
      obtain ⟨st2, out, k1, k2, k3, k4, k5⟩ := exF_ok hN hm (fu := fu) (i := i + 1) h2 (by omega) (by have := h3.length_le; omega)
      refine ⟨st2, { N[st[i]] with arcs := bs } :: out, ?_, k2, h3.trans k3, fun x hx b hb => ?_, ?_⟩
      · rw [exF, List.getElem?_eq_getElem hil]
        simp only
        rw [List.getElem?_eq_getElem hs]
        simp only
        rw [h1]
        simp only
        rw [k1]
      · rcases List.mem_cons.1 hx with rfl | hx
        · exact chkArc_mono (h5 b hb) k3.length_le
        · exact k4 x hx b hb
      · have hp := h3.trans k3
        have hl2 : i < st2.length := Nat.lt_of_lt_of_le hil hp.length_le
        have he : st2[i] = st[i] := (hp.getElem hil).symm
        rw [List.drop_eq_getElem_cons hl2, List.map_cons, List.sum_cons, ← k5, he]
        have : arcsAt N st[i] = bs.length := by
          unfold arcsAt
          rw [List.getD_eq_getElem?_getD, List.getElem?_eq_getElem hs, h4]
          rfl
        rw [this]
        rfl
    · refine ⟨st, [], by rw [exF, List.getElem?_eq_none (by omega)], h, List.prefix_refl _, (fun x hx => by cases hx), ?_⟩
      rw [List.drop_of_length_le (by omega)]
      rfl
/-- A graph that may be is explored; what is found may be too, and explored again it is the same. -/
theorem again {N : PNet} (hN : chk N = true) : ∃ st g, exF N 20000 20001 0 [0] = some (st, g) ∧ st.length = g.length ∧ st.length ≤ N.length ∧ Met N.length st ∧ chk g = true ∧ exF g st.length 20001 0 [0] = some (List.range g.length, g) := by
  have hN2 := hN
  unfold chk at hN2
  simp only [Bool.and_eq_true, decide_eq_true_eq] at hN2
  obtain ⟨⟨⟨n1, n2⟩, _⟩, n4⟩ := hN2
  have hM : Met N.length [0] := ⟨by simp, by simp; omega, by simp⟩
  obtain ⟨st, g, h1, h2, h3, h4, h5⟩ := exF_ok hN n2 (fu := 20001) (i := 0) hM (by omega) (by simp)
  have hl := (exF_len h1).2 (by simp)
  have hb := nodup_bound _ _ h2.nodup h2.lt
  have hs := sum_bound N N.length st (Nat.le_refl _) h2.nodup h2.lt
  rw [List.take_length] at hs
  rw [List.drop_zero] at h5
  have hp := h2.pos
  refine ⟨st, g, h1, by omega, hb, h2, ?_, ?_⟩
  · unfold chk
    simp only [Bool.and_eq_true, decide_eq_true_eq]
    refine ⟨⟨⟨by omega, by omega⟩, List.all_eq_true.2 fun x hx => List.all_eq_true.2 fun b hb => ?_⟩, by omega⟩
    have := h4 x hx b hb
    rwa [hl, Nat.zero_add] at this
  · have := exF_again (g := g) (most2 := st.length) h1 rfl (Nat.le_refl _)
    rw [show g.length = st.length by omega]
    exact this
end Go.Proofs.Ytpednhcfkjjcpaa
