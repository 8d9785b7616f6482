/- Ex, Key, Map, MapIn, Mark, Exv, joined. -/
import Derived.Test.YtcedenoicmpjmaaNode
import Derived.Maps.OwnIn
import Derived.Maps.OwnOps
section
/- Exploring a graph, plain. -/
namespace Go.Proofs.Ytcedenoicmpjmaa
open Go.RowKit
set_option linter.unusedVariables false
set_option linter.unusedSimpArgs false

def PArc.goes (a : PArc) (t : Int) : PArc := ⟨a.proc, t, a.bad, a.reads, a.writes, a.turns⟩
def stepA (most : Nat) (st : List Nat) (a : PArc) : Option (List Nat × PArc) :=
  if a.bad = 0 then
    if a.to.toNat ∈ st then some (st, a.goes ((st.idxOf a.to.toNat : Int)))
    else if st.length = most then none else some (st ++ [a.to.toNat], a.goes ((st.length : Int)))
  else some (st, a.goes (0))
def stepAs (most : Nat) : List Nat → List PArc → Option (List Nat × List PArc)
  | st, [] => some (st, [])
  | st, a :: l => match stepA most st a with
    | none => none
    | some (st1, b) => match stepAs most st1 l with
      | none => none
      | some (st2, bs) => some (st2, b :: bs)
def exF (N : PNet) (most : Nat) : Nat → Nat → List Nat → Option (List Nat × PNet)
  | 0, _, _ => none
  | fu + 1, i, st => match st[i]? with
    | none => some (st, [])
    | some s => match N[s]? with
      | none => none
      | some x => match stepAs most st x.arcs with
        | none => none
        | some (st1, bs) => match exF N most fu (i + 1) st1 with
          | none => none
          | some (st2, out) => some (st2, { x with arcs := bs } :: out)
theorem nodup_bound : ∀ (n : Nat) (l : List Nat), l.Nodup → (∀ x ∈ l, x < n) → l.length ≤ n
  | 0, [], _, _ => Nat.le_refl _
  | 0, a :: l, _, h => absurd (h a (by simp)) (Nat.not_lt_zero _)
  | n + 1, l, hd, h => by
    by_cases hm : n ∈ l
    · have h1 := nodup_bound n (l.erase n) (hd.erase n) (fun x hx => by
        obtain ⟨h2, h3⟩ := (hd.mem_erase_iff).1 hx
        have := h x h3
        omega)
      rw [List.length_erase_of_mem hm] at h1
      omega
    · have h1 := nodup_bound n l hd (fun x hx => by
        have := h x hx
        have : x ≠ n := fun e => hm (e ▸ hx)
        omega)
      omega
def arcsAt (N : PNet) (s : Nat) : Nat := (N.getD s zeroN).arcs.length
theorem sum_bound (N : PNet) : ∀ (n : Nat) (l : List Nat), n ≤ N.length → l.Nodup → (∀ x ∈ l, x < n) → (l.map (arcsAt N)).sum ≤ total (N.take n)
  | 0, [], _, _, _ => Nat.zero_le _
  | 0, a :: l, _, _, h => absurd (h a (by simp)) (Nat.not_lt_zero _)
  | n + 1, l, hn, hd, h => by
    have ht := total_take (n := N) (k := n) (by omega)
    by_cases hm : n ∈ l
    · have h1 := sum_bound N n (l.erase n) (by omega) (hd.erase n) (fun x hx => by
        obtain ⟨h2, h3⟩ := (hd.mem_erase_iff).1 hx
        have := h x h3
        omega)
      have h2 := ((List.perm_cons_erase hm).map (arcsAt N)).sum_nat
      simp only [List.map_cons, List.sum_cons] at h2
      have h3 : arcsAt N n = N[n].arcs.length := by
        unfold arcsAt
        rw [List.getD_eq_getElem?_getD, List.getElem?_eq_getElem (by omega)]
        rfl
      omega
    · have h1 := sum_bound N n l (by omega) hd (fun x hx => by
        have := h x hx
        have : x ≠ n := fun e => hm (e ▸ hx)
        omega)
      omega
theorem range_idxOf : ∀ (n j : Nat), j < n → (List.range n).idxOf j = j
  | n + 1, j, h => by
    rw [List.range_succ, List.idxOf_append]
    by_cases hj : j < n
    · rw [if_pos (List.mem_range.2 hj), range_idxOf n j hj]
    · obtain rfl : j = n := by omega
      rw [if_neg (by simp)]
      simp
theorem stepA_old {most : Nat} {st : List Nat} {a : PArc} (hb : a.bad = 0) (h : a.to.toNat ∈ st) : stepA most st a = some (st, a.goes (st.idxOf a.to.toNat : Int)) := by
  unfold stepA
  rw [if_pos hb, if_pos h]
theorem stepA_new {most : Nat} {st : List Nat} {a : PArc} (hb : a.bad = 0) (h : ¬ a.to.toNat ∈ st) (hm : ¬ st.length = most) : stepA most st a = some (st ++ [a.to.toNat], a.goes (st.length : Int)) := by
  unfold stepA
  rw [if_pos hb, if_neg h, if_neg hm]
theorem stepA_bad {most : Nat} {st : List Nat} {a : PArc} (hb : ¬ a.bad = 0) : stepA most st a = some (st, a.goes 0) := by
  unfold stepA
  rw [if_neg hb]
theorem stepA_len {most : Nat} {st st1 : List Nat} {a b : PArc} (h : stepA most st a = some (st1, b)) : st.length ≤ st1.length := by
  unfold stepA at h
  split at h
  · split at h
    · injection h with h; injection h with h _; subst h; exact Nat.le_refl _
    · split at h
      · cases h
      · injection h with h; injection h with h _; subst h; simp
  · injection h with h; injection h with h _; subst h; exact Nat.le_refl _
theorem stepAs_len {most : Nat} : ∀ {l : List PArc} {st st1 : List Nat} {bs : List PArc}, stepAs most st l = some (st1, bs) → st.length ≤ st1.length
  | [], st, st1, bs, h => by
    rw [stepAs] at h; injection h with h; injection h with h _; subst h; exact Nat.le_refl _
  | a :: l, st, st1, bs, h => by
    rw [stepAs] at h
    split at h
    · cases h
    · rename_i st' b h1
      split at h
      · cases h
      · rename_i st2 bs2 h2
        injection h with h; injection h with h _; subst h
        exact Nat.le_trans (stepA_len h1) (stepAs_len h2)
theorem exF_len {N : PNet} {most : Nat} : ∀ {fu i : Nat} {st st1 : List Nat} {out : PNet}, exF N most fu i st = some (st1, out) → st.length ≤ st1.length ∧ (i ≤ st.length → st1.length = i + out.length)
  | 0, i, st, st1, out, h => by rw [exF] at h; cases h
  | fu + 1, i, st, st1, out, h => by
    rw [exF] at h
    split at h
    · rename_i h0
      injection h with h; injection h with h h'; subst h; subst h'
      have := List.getElem?_eq_none_iff.1 h0
      exact ⟨Nat.le_refl _, fun hi => by simp; omega⟩
    · rename_i s h0
      have hi := (List.getElem?_eq_some_iff.1 h0).1
      split at h
      · cases h
      · split at h
        · cases h
        · rename_i st' bs h1
          split at h
          · cases h
          · rename_i st2 out2 h2
            injection h with h; injection h with h h'; subst h; subst h'
            have l1 := stepAs_len h1
            obtain ⟨l2, l3⟩ := exF_len h2
            exact ⟨by omega, fun _ => by have := l3 (by omega); simp; omega⟩
/-- What is explored again is met in the same order. -/
theorem stepA_again {most most2 : Nat} {st st1 : List Nat} {a b : PArc} (h : stepA most st a = some (st1, b)) (hm : st1.length ≤ most2) : stepA most2 (List.range st.length) b = some (List.range st1.length, b) := by
  unfold stepA at h
  split at h
  · rename_i hb
    split at h
    · rename_i hin
      injection h with h; injection h with h h'; subst h; subst h'
      have hj : st.idxOf a.to.toNat < st.length := List.idxOf_lt_length_of_mem hin
      refine (stepA_old (a := a.goes (st.idxOf a.to.toNat : Int)) hb (List.mem_range.2 hj)).trans ?_
      show some (_, a.goes ((List.range st.length).idxOf (st.idxOf a.to.toNat) : Int)) = _
      rw [range_idxOf _ _ hj]
    · split at h
      · cases h
      · injection h with h; injection h with h h'; subst h; subst h'
        simp only [List.length_append, List.length_cons, List.length_nil, Nat.zero_add] at hm
        refine (stepA_new (most := most2) (st := List.range st.length) (a := a.goes (st.length : Int)) hb (fun hh => Nat.lt_irrefl _ (List.mem_range.1 hh)) (by rw [List.length_range]; omega)).trans ?_
        show some (List.range st.length ++ [st.length], a.goes ((List.range st.length).length : Int)) = _
        rw [List.length_range, List.length_append, List.length_cons, List.length_nil, List.range_succ]
  · rename_i hb
    injection h with h; injection h with h h'; subst h; subst h'
    exact stepA_bad (a := a.goes 0) hb
theorem stepAs_again {most most2 : Nat} : ∀ {l : List PArc} {st st1 : List Nat} {bs : List PArc}, stepAs most st l = some (st1, bs) → st1.length ≤ most2 → stepAs most2 (List.range st.length) bs = some (List.range st1.length, bs)
  | [], st, st1, bs, h, hm => by
    rw [stepAs] at h; injection h with h; injection h with h h'; subst h; subst h'; rw [stepAs]
  | a :: l, st, st1, bs, h, hm => by
    rw [stepAs] at h
    split at h
    · cases h
    · rename_i st' b h1
      split at h
      · cases h
      · rename_i st2 bs2 h2
        injection h with h; injection h with h h'; subst h; subst h'
        have := stepAs_len h2
        rw [stepAs, stepA_again h1 (by omega)]
        simp only
        rw [stepAs_again h2 hm]
theorem exF_again {N g : PNet} {most most2 : Nat} : ∀ {fu i : Nat} {st st1 : List Nat} {out : PNet}, exF N most fu i st = some (st1, out) → g.drop i = out → st1.length ≤ most2 → exF g most2 fu i (List.range st.length) = some (List.range st1.length, out)
  | 0, i, st, st1, out, h, hg, hm => by rw [exF] at h; cases h
  | fu + 1, i, st, st1, out, h, hg, hm => by
    rw [exF] at h
    split at h
    · rename_i h0
      injection h with h; injection h with h h'; subst h; subst h'
      have := List.getElem?_eq_none_iff.1 h0
      rw [exF, List.getElem?_eq_none (by simpa using this)]
    · rename_i s h0
      have hi := (List.getElem?_eq_some_iff.1 h0).1
      split at h
      · cases h
      · rename_i x hx
        split at h
        · cases h
        · rename_i st' bs h1
          split at h
          · cases h
          · rename_i st2 out2 h2
            injection h with h; injection h with h h'; subst h; subst h'
            have hl := exF_len h2
            have hg0 : g[i]? = some { x with arcs := bs } := by
              have : (g.drop i)[0]? = some { x with arcs := bs } := by rw [hg]; rfl
              rwa [List.getElem?_drop, Nat.add_zero] at this
            have hgd : g.drop (i + 1) = out2 := by
              rw [← List.drop_drop, hg]; rfl
            rw [exF, List.getElem?_range hi]
            simp only
            rw [hg0]
            simp only
            rw [stepAs_again h1 (by omega)]
            simp only
            rw [exF_again h2 hgd hm]
theorem chkArc_goes {n m : Nat} {a : PArc} {t : Int} (h : chkArc n a = true) (h0 : 0 ≤ t) (h1 : t < (m : Int)) (hb : a.bad = 0 ∨ t = 0) : chkArc m (a.goes t) = true := by
  unfold chkArc at h ⊢
  simp only [Bool.and_eq_true, decide_eq_true_eq, Bool.or_eq_true, beq_iff_eq] at h ⊢
  obtain ⟨⟨⟨⟨⟨⟨⟨⟨h1', h2⟩, h3⟩, h4⟩, h5⟩, h6⟩, h7⟩, h8⟩, h9⟩ := h
  exact ⟨⟨⟨⟨⟨⟨⟨⟨h1', h2⟩, h3⟩, h4⟩, h5⟩, h6⟩, h0⟩, h1⟩, hb⟩
theorem chkArc_mono {n m : Nat} {a : PArc} (h : chkArc n a = true) (hm : n ≤ m) : chkArc m a = true := by
  unfold chkArc at h ⊢
  simp only [Bool.and_eq_true, decide_eq_true_eq, Bool.or_eq_true, beq_iff_eq] at h ⊢
  obtain ⟨⟨⟨⟨⟨⟨⟨⟨h1', h2⟩, h3⟩, h4⟩, h5⟩, h6⟩, h7⟩, h8⟩, h9⟩ := h
  exact ⟨⟨⟨⟨⟨⟨⟨⟨h1', h2⟩, h3⟩, h4⟩, h5⟩, h6⟩, h7⟩, by omega⟩, h9⟩
theorem chkArc_to {n : Nat} {a : PArc} (h : chkArc n a = true) : 0 ≤ a.to ∧ a.to < (n : Int) := by
  unfold chkArc at h
  simp only [Bool.and_eq_true, decide_eq_true_eq, Bool.or_eq_true, beq_iff_eq] at h
  obtain ⟨⟨⟨⟨⟨⟨⟨⟨h1', h2⟩, h3⟩, h4⟩, h5⟩, h6⟩, h7⟩, h8⟩, h9⟩ := h
  exact ⟨h7, h8⟩
/-- The nodes that are met: unlike, and nodes of the graph. -/
structure Met (n : Nat) (st : List Nat) : Prop where
  nodup : st.Nodup
  lt : ∀ x ∈ st, x < n
  pos : 0 < st.length
theorem stepA_ok {n most : Nat} {st : List Nat} {a : PArc} (h : Met n st) (hm : n ≤ most) (ha : chkArc n a = true) : ∃ st1 b, stepA most st a = some (st1, b) ∧ Met n st1 ∧ st <+: st1 ∧ chkArc st1.length b = true := by
  have hto := chkArc_to ha
  by_cases hb : a.bad = 0
  · by_cases hin : a.to.toNat ∈ st
    · refine ⟨_, _, stepA_old hb hin, h, List.prefix_refl _, chkArc_goes ha (by omega) ?_ (.inl hb)⟩
      have := List.idxOf_lt_length_of_mem hin
      omega
    · have hM : Met n (st ++ [a.to.toNat]) := by
        refine ⟨?_, ?_, by simp⟩
        · rw [List.nodup_append]
          refine ⟨h.nodup, by simp, fun x hx y hy e => ?_⟩
          rw [List.mem_singleton] at hy
          exact hin (by rw [← hy, ← e]; exact hx)
        · intro x hx
          rcases List.mem_append.1 hx with hx | hx
          · exact h.lt x hx
          · rw [List.mem_singleton] at hx; omega
      have hl := nodup_bound n _ hM.nodup hM.lt
      rw [List.length_append, List.length_cons, List.length_nil] at hl
      refine ⟨_, _, stepA_new hb hin (by omega), hM, List.prefix_append _ _, chkArc_goes ha (by omega) ?_ (.inl hb)⟩
      simp
      omega
  · refine ⟨_, _, stepA_bad hb, h, List.prefix_refl _, chkArc_goes ha (by omega) ?_ (.inr rfl)⟩
    have := h.pos
    omega
theorem stepAs_ok {n most : Nat} : ∀ {l : List PArc} {st : List Nat}, Met n st → n ≤ most → (∀ a ∈ l, chkArc n a = true) → ∃ st1 bs, stepAs most st l = some (st1, bs) ∧ Met n st1 ∧ st <+: st1 ∧ bs.length = l.length ∧ ∀ b ∈ bs, chkArc st1.length b = true
  | [], st, h, hm, ha => ⟨st, [], by rw [stepAs], h, List.prefix_refl _, rfl, fun b hb => by cases hb⟩
  | a :: l, st, h, hm, ha => by
    obtain ⟨st1, b, h1, h2, h3, h4⟩ := stepA_ok h hm (ha a (by simp))
    obtain ⟨st2, bs, k1, k2, k3, k4, k5⟩ := stepAs_ok (l := l) h2 hm (fun x hx => ha x (by simp [hx]))
    refine ⟨st2, b :: bs, by rw [stepAs, h1]; simp only; rw [k1], k2, h3.trans k3, by simp [k4], fun x hx => ?_⟩
    rcases List.mem_cons.1 hx with rfl | hx
    · exact chkArc_mono h4 k3.length_le
    · exact k5 x hx
theorem exF_ok {N : PNet} {most : Nat} (hN : chk N = true) (hm : N.length ≤ most) : ∀ {fu i : Nat} {st : List Nat}, Met N.length st → N.length < fu + i → i ≤ st.length →
    ∃ st1 out, exF N most fu i st = some (st1, out) ∧ Met N.length st1 ∧ st <+: st1 ∧ (∀ x ∈ out, ∀ b ∈ x.arcs, chkArc st1.length b = true) ∧ total out = ((st1.drop i).map (arcsAt N)).sum
  | 0, i, st, h, hf, hi => by
    have := nodup_bound _ _ h.nodup h.lt
    omega
  | fu + 1, i, st, h, hf, hi => by
    by_cases hil : i < st.length
    · have hs := h.lt _ (List.getElem_mem hil)
      have hall : ∀ a ∈ N[st[i]].arcs, chkArc N.length a = true := fun a ha => by
        unfold chk at hN
        simp only [Bool.and_eq_true] at hN
        have h1 := List.all_eq_true.1 hN.1.2 N[st[i]] (List.getElem_mem hs)
        exact List.all_eq_true.1 h1 a ha
      obtain ⟨st1, bs, h1, h2, h3, h4, h5⟩ := stepAs_ok h hm hall
      obtain ⟨st2, out, k1, k2, k3, k4, k5⟩ := exF_ok hN hm (fu := fu) (i := i + 1) h2 (by omega) (by have := h3.length_le; omega)
      refine ⟨st2, { N[st[i]] with arcs := bs } :: out, ?_, k2, h3.trans k3, fun x hx b hb => ?_, ?_⟩
      · rw [exF, List.getElem?_eq_getElem hil]
        simp only
        rw [List.getElem?_eq_getElem hs]
        simp only
        rw [h1]
        simp only
        rw [k1]
      · rcases List.mem_cons.1 hx with rfl | hx
        · exact chkArc_mono (h5 b hb) k3.length_le
        · exact k4 x hx b hb
      · have hp := h3.trans k3
        have hl2 : i < st2.length := Nat.lt_of_lt_of_le hil hp.length_le
        have he : st2[i] = st[i] := (hp.getElem hil).symm
        rw [List.drop_eq_getElem_cons hl2, List.map_cons, List.sum_cons, ← k5, he]
        have : arcsAt N st[i] = bs.length := by
          unfold arcsAt
          rw [List.getD_eq_getElem?_getD, List.getElem?_eq_getElem hs, h4]
          rfl
        rw [this]
        rfl
    · refine ⟨st, [], by rw [exF, List.getElem?_eq_none (by omega)], h, List.prefix_refl _, (fun x hx => by cases hx), ?_⟩
      rw [List.drop_of_length_le (by omega)]
      rfl
/-- A graph that may be is explored; what is found may be too, and explored again it is the same. -/
theorem again {N : PNet} (hN : chk N = true) : ∃ st g, exF N 20000 20001 0 [0] = some (st, g) ∧ st.length = g.length ∧ st.length ≤ N.length ∧ Met N.length st ∧ chk g = true ∧ exF g st.length 20001 0 [0] = some (List.range g.length, g) := by
  have hN2 := hN
  unfold chk at hN2
  simp only [Bool.and_eq_true, decide_eq_true_eq] at hN2
  obtain ⟨⟨⟨n1, n2⟩, _⟩, n4⟩ := hN2
  have hM : Met N.length [0] := ⟨by simp, by simp; omega, by simp⟩
  obtain ⟨st, g, h1, h2, h3, h4, h5⟩ := exF_ok hN n2 (fu := 20001) (i := 0) hM (by omega) (by simp)
  have hl := (exF_len h1).2 (by simp)
  have hb := nodup_bound _ _ h2.nodup h2.lt
  have hs := sum_bound N N.length st (Nat.le_refl _) h2.nodup h2.lt
  rw [List.take_length] at hs
  rw [List.drop_zero] at h5
  have hp := h2.pos
  refine ⟨st, g, h1, by omega, hb, h2, ?_, ?_⟩
  · unfold chk
    simp only [Bool.and_eq_true, decide_eq_true_eq]
    refine ⟨⟨⟨by omega, by omega⟩, List.all_eq_true.2 fun x hx => List.all_eq_true.2 fun b hb => ?_⟩, by omega⟩
    have := h4 x hx b hb
    rwa [hl, Nat.zero_add] at this
  · have := exF_again (g := g) (most2 := st.length) h1 rfl (Nat.le_refl _)
    rw [show g.length = st.length by omega]
    exact this
end Go.Proofs.Ytcedenoicmpjmaa
end
section
/- A node's name as bytes: plain. -/
namespace Go.Proofs.Ytcedenoicmpjmaa
open Go.RowKit
set_option linter.unusedVariables false
set_option linter.unusedSimpArgs false

theorem u8_toNat {n : Nat} (h : n < 256) : (UInt8.ofNat n).toNat = n := by
  have := u8_of h
  omega
theorem decF_enc : ∀ (j m k n f : Nat) (r : Bs), m < 128 ^ (j + 1) → k + j < 9 → j < f → (k = 0 ∨ 0 < m) → decF f k n (enc m ++ r) = .ok (n + m * 128 ^ k) (k + (enc m).length)
  | j, m, k, n, 0, r, _, _, hf, _ => absurd hf (Nat.not_lt_zero _)
  | j, m, k, n, f + 1, r, hm, hk, hf, h0 => by
    by_cases hs : m < 128
    · rw [enc_lt hs]
      simp only [List.cons_append, List.nil_append, List.length_cons, List.length_nil]
      rw [decF]
      simp only [u8_toNat (n := m) (by omega)]
      rw [if_neg (by omega), if_pos hs, if_neg (by omega)]
    · match j, hm, hk, hf with
      | 0, hm, _, _ => exact absurd (by simpa using hm) hs
      | j + 1, hm, hk, hf =>
        rw [enc_ge hs]
        simp only [List.cons_append, List.length_cons]
        rw [decF]
        simp only [u8_toNat (n := 128 + m % 128) (by omega)]
        rw [if_neg (by omega), if_neg (by omega)]
        have hd : m / 128 < 128 ^ (j + 1) := by rw [Nat.div_lt_iff_lt_mul (by omega)]; rw [Nat.pow_succ] at hm; exact hm
        rw [decF_enc j (m / 128) (k + 1) _ f r hd (by omega) (by omega) (.inr (by omega))]
        have e1 : (128 + m % 128) % 128 = m % 128 := by omega
        have e2 : m = m % 128 + 128 * (m / 128) := by omega
        have e3 : m * 128 ^ k = m % 128 * 128 ^ k + m / 128 * 128 ^ (k + 1) := by
          rw [Nat.pow_succ, Nat.mul_comm (128 ^ k) 128, ← Nat.mul_assoc, ← Nat.add_mul, Nat.mul_comm (m / 128) 128, ← e2]
        rw [e1, e3]
        congr 1 <;> omega
theorem dec_enc {m : Nat} (h : m ≤ 20000) (r : Bs) : dec (enc m ++ r) = .ok m (enc m).length := by
  unfold dec
  rw [decF_enc 2 m 0 0 10 r (by omega) (by omega) (by omega) (.inl rfl)]
  simp
theorem nums_enc {m : Nat} (h : m ≤ 20000) : nums 20000 1 (enc m) = some ([m], []) := by
  have := dec_enc h []
  rw [List.append_nil] at this
  rw [nums, this]
  simp only
  rw [if_neg (by omega), List.drop_length, nums]
theorem nodeOf_enc {N : PNet} {m : Nat} (h : m ≤ 20000) : nodeOf N (enc m) = N[m]? := by
  unfold nodeOf
  rw [nums_enc h]
theorem enc_inj {m n : Nat} (h : enc m = enc n) (hm : m ≤ 20000) (hn : n ≤ 20000) : m = n := by
  have h1 := nums_enc hm
  rw [h, nums_enc hn] at h1
  injection h1 with h1
  injection h1 with h1 _
  injection h1 with h1 _
  exact h1.symm
def keyS (n : Nat) : ByteArray := ⟨(enc n).toArray⟩
theorem keyS_inj {m n : Nat} (h : keyS m = keyS n) (hm : m ≤ 20000) (hn : n ≤ 20000) : m = n := by
  unfold keyS at h
  injection h with h
  injection h with h
  exact enc_inj h hm hn
theorem keyS_list (n : Nat) : (keyS n).data.toList = enc n := rfl
theorem keyS_size {n : Nat} (h : n ≤ 20000) : (keyS n).size ≤ 3 := by
  have := enc_len 2 n (by omega)
  show (enc n).toArray.size ≤ 3
  simpa using this
end Go.Proofs.Ytcedenoicmpjmaa
end
section
/- The numbers of the nodes that are met, as a map. -/
namespace Go.Proofs.Ytcedenoicmpjmaa
open Go.RowKit Go.Maps
set_option linter.unusedVariables false
set_option linter.unusedSimpArgs false

structure NumD (D : DataW Unit) (st : List Nat) : Prop where
  isMap : IsMap D
  has : ∀ m, m ≤ 20000 → Maps.has D (.string (enc m)) = decide (m ∈ st)
  at_ : ∀ m, m ≤ 20000 → m ∈ st → ∀ z, D.atKey (.string (enc m)) z = .lit (.int .i64 (st.idxOf m : Int))
theorem NumD.nil : NumD (.map []) [] := ⟨isMap_empty, fun m _ => by simp [Maps.has], fun m _ h => by cases h⟩
theorem isKey_enc (m : Nat) : WideAt.IsKeyLit (.string (enc m)) := trivial
theorem NumD.put {D : DataW Unit} {st : List Nat} (h : NumD D st) {m : Nat} (hm : m ≤ 20000) (hn : m ∉ st) : NumD (D.put (.string (enc m)) (.lit (.int .i64 (st.length : Int)))) (st ++ [m]) := by
  refine ⟨h.isMap.put _ _, fun k hk => ?_, fun k hk hin z => ?_⟩
  · by_cases e : k = m
    · subst e
      rw [has_put_same h.isMap (isKey_enc k)]
      simp
    · rw [has_put_other (fun he => e (by injection he with he; exact enc_inj he hk hm)), h.has k hk]
      simp [e]
  · by_cases e : k = m
    · subst e
      rw [atKey_put_same h.isMap (isKey_enc k), List.idxOf_append, if_neg hn]
      simp
    · have hks : k ∈ st := by
        rcases List.mem_append.1 hin with h1 | h1
        · exact h1
        · rw [List.mem_singleton] at h1; exact absurd h1 e
      rw [atKey_put_other (fun he => e (by injection he with he; exact enc_inj he hk hm)), h.at_ k hk hks, List.idxOf_append, if_pos hks]
/-- The map in memory. -/
def NumV (w : World) (b n : Nat) (st : List Nat) : Prop := ∃ D : DataW Unit, w.ownsMap Try.prog 9 (plainElem Try.prog 3) b n D ∧ NumD D st
theorem str_keyed : Keyed Try.prog 9 := string_keyed Try.underlying9
theorem key_enc (m : Nat) (h : m ≤ 20000) : keyOf Try.prog 9 (.string (keyS m)) = some (.string (enc m)) := by
  have h1 := keyS_size h
  have h2 : (keyS m).size ≤ maxLen := by unfold maxLen; omega
  unfold keyOf mapKey
  rw [Try.underlying9]
  simp only
  rw [if_pos h2, keyS_list]
theorem NumV.alloc {w : World} {b n : Nat} {st : List Nat} (h : NumV w b n st) (o : Obj) : NumV (w.alloc o) b n st := by
  obtain ⟨D, h1, h2⟩ := h
  exact ⟨D, h1.alloc o, h2⟩
theorem NumV.set {w : World} {b n : Nat} {st : List Nat} (h : NumV w b n st) {p : Addr} (hp : b ≠ p.block) (v : Value) : NumV (w.setCell p v) b n st := by
  obtain ⟨D, h1, h2⟩ := h
  exact ⟨D, h1.setCell hp v, h2⟩
theorem NumV.of_eq {w w' : World} {b n : Nat} {st : List Nat} (h : NumV w b n st) (he : w'.heap[b]? = w.heap[b]?) : NumV w' b n st := by
  obtain ⟨D, ⟨es, clock, hb, F, hs, hD⟩, h2⟩ := h
  exact ⟨D, ⟨es, clock, he.trans hb, F, hs, hD⟩, h2⟩
theorem NumV.lt {w : World} {b n : Nat} {st : List Nat} (h : NumV w b n st) : b < w.heap.size := by
  obtain ⟨D, h1, _⟩ := h
  exact h1.lt
theorem NumV.ne {w : World} {b n g : Nat} {st : List Nat} {t : TypeId} {cs : List Value} (h : NumV w b n st) (hg : Holds w g t cs) : b ≠ g := by
  obtain ⟨D, ⟨es, clock, hb, _⟩, _⟩ := h
  rintro rfl
  unfold Holds at hg
  rw [hb] at hg
  cases hg
end Go.Proofs.Ytcedenoicmpjmaa
end
section
/- The map's operations in the fenced walk. -/
namespace Go.Proofs.Ytcedenoicmpjmaa
open Go.RowKit Go.Maps
set_option linter.unusedVariables false
set_option linter.unusedSimpArgs false

theorem plain_num (k : Nat) (h : k < 9223372036854775808) : plainElem (H := Unit) Try.prog 3 (.int .i64 (k : Int)) = some (.lit (.int .i64 (k : Int)), []) :=
  plainElem_int Try.underlying3 (by simp [Lit.wf, IntKind.min, IntKind.max, IntKind.signed, IntKind.bits]; omega)
section
variable {F : Fence} {n : Nat} {ops : Array Oper} {rest : List Oper} {o : Oper} {a : Act} {Q : Exit → Act → World → Prop} {w : World}
theorem NumV.update {b N k : Nat} {st : List Nat} (h : NumV w b N st) (hN : N < maxLen) (hk : k ≤ 20000) (hn : k ∉ st) (hl : st.length ≤ 20000) :
    ∃ w', (Instr.mapUpdate 84 (.map (some b)) (.string (keyS k)) (.int .i64 (st.length : Int))).run Try.prog w = .ok () w' ∧ NumV w' b (N + 1) (st ++ [k]) ∧ w.grownBy w' (some b) := by
  obtain ⟨D, h1, h2⟩ := h
  obtain ⟨w', hrun, r1, r2⟩ := h1.update str_keyed Try.underlying84 hN (key_enc k hk) (plain_num st.length (by omega))
  exact ⟨w', hrun, ⟨_, r1, h2.put hk hn⟩, r2⟩
theorem wpListIn_insert_num (hg : o.guard = none) (m x v : Operand) (hop : o.op = .insert 84 m x v ∨ o.op = .mapUpdate 84 m x v) (b N k : Nat) (st : List Nat)
    (hm : a.eval m = .map (some b)) (hx : a.eval x = .string (keyS k)) (hv : a.eval v = .int .i64 (st.length : Int)) (h : NumV w b N st) (hN : N < maxLen) (hk : k ≤ 20000) (hn : k ∉ st) (hl : st.length ≤ 20000)
    (hK : ∀ w', NumV w' b (N + 1) (st ++ [k]) → w.grownBy w' (some b) → wpListIn F n Try.prog ops Q rest (a.put o.dst undef) w') : wpListIn F n Try.prog ops Q (o :: rest) a w := by
  refine wpListIn_plain hg fun K' hK' => ?_
  obtain ⟨w', hrun, r1, r2⟩ := h.update hN hk hn hl
  unfold Oper.wpIn
  rcases hop with hop | hop
  · refine ⟨by simp [Oper.about, hop], ?_⟩
    rw [Oper.semAt_plain F _ _ (by rw [hop]; intro c hc'; cases hc')]
    simp [execOp, hop, hm, hx, hv, hrun, Result.andThen]
    exact hK' _ _ (hK w' r1 r2)
  · refine ⟨by simp [Oper.about, hop], ?_⟩
    rw [Oper.semAt_plain F _ _ (by rw [hop]; intro c hc'; cases hc')]
    simp [execOp, hop, hm, hx, hv, hrun, Result.andThen]
    exact hK' _ _ (hK w' r1 r2)
theorem wpListIn_look_num (hg : o.guard = none) (m x : Operand) (hop : o.op = .lookup 84 m x true) (b N k : Nat) (st : List Nat)
    (hm : a.eval m = .map (some b)) (hx : a.eval x = .string (keyS k)) (h : NumV w b N st) (hk : k ≤ 20000)
    (hK : ∀ c : Int, (k ∈ st → c = (st.idxOf k : Int)) → wpListIn F n Try.prog ops Q rest (a.put o.dst (.tuple #[.int .i64 c, .bool (decide (k ∈ st))])) w) : wpListIn F n Try.prog ops Q (o :: rest) a w := by
  obtain ⟨D, h1, h2⟩ := h
  refine wpListIn_lookup_own_ok_int w hg m x 84 hop 9 3 .i64 str_keyed Try.underlying84 Try.underlying3 (by kernel_rfl) b N D hm h1 _ _ hx (key_enc k hk) fun c hat hwf => ?_
  rw [h2.has k hk]
  refine hK c fun hin => ?_
  rw [h2.at_ k hk hin] at hat
  injection hat with hat
  injection hat with _ hat
  exact hat.symm
end
end Go.Proofs.Ytcedenoicmpjmaa
end
section
/- A function that is left with many marks of range-over-func loops among its deferred calls. -/
namespace Go.Proofs.Ytcedenoicmpjmaa
open Go.RowKit
set_option linter.unusedVariables false
set_option linter.unusedSimpArgs false

def mark (D : Nat) : Deferred := { target := .collected D, args := #[] }
theorem leaves_marks {F : Fence} {n : Nat} {P : Program} {fn : Func} {tmps : Array Value} {R : Ending → World → Prop} {u : FrameMode} (hu : u ≠ .run) : ∀ (ds : List Nat) (w : World), ds.Nodup → (∀ D ∈ ds, w.heap[D]? = some (.deferred (some []))) →
    (∀ w', Fr (fun k => k ∈ ds) w w' → LeavesInM F n P fn tmps R [] u w') → LeavesInM F n P fn tmps R (ds.map mark) u w
  | [], w, _, _, h => h w (Fr.refl _ _)
  | D :: ds, w, hd, hm, h => by
    have hD := hm D (by simp)
    have hd2 := List.nodup_cons.1 hd
    refine ⟨hu, .inl ⟨D, _, rfl, run_takeDeferred hD, leaves_marks hu ds _ hd2.2 (fun E hE => ?_) fun w' hf => ?_⟩⟩
    · exact (World.putObj_heap_other (by rintro rfl; exact hd2.1 hE)).trans (hm E (by simp [hE]))
    · refine h w' (Fr.trans (F := fun k => k ∈ D :: ds) ((Fr.refl _ w).grown (grownBy_putObj' w D _) fun k hk _ => ?_) hf fun k _ hk => by simp [hk])
      injection hk with hk
      simp [hk]
end Go.Proofs.Ytcedenoicmpjmaa
end
section
/- What lies in memory while a graph is explored. -/
namespace Go.Proofs.Ytcedenoicmpjmaa
open Go.RowKit Go.Maps
set_option linter.unusedVariables false
set_option linter.unusedSimpArgs false

/-- The blocks of Explore's variables. -/
structure ExB where
  b3 : Nat
  b4 : Nat
  b5 : Nat
  b6 : Nat
  b7 : Nat
  b8 : Nat
  b9 : Nat
  b10 : Nat
  m : Nat
/-- Where what has been found lies: in none of the blocks that are written into. -/
def ExP (base : Nat) (B : ExB) (vs vo : Value) (k : Nat) : Prop := (base ≤ k ∧ k ≠ B.b4 ∧ k ≠ B.b5 ∧ k ≠ B.b6) ∧ k ≠ B.b7 ∧ k ≠ B.b9 ∧ k ≠ B.b10 ∧ k ≠ B.m ∧ vs.ownBlock ≠ some k ∧ vo.ownBlock ≠ some k
structure ExV (base : Nat) (P : Nat → Prop) (B : ExB) (w0 W : World) (most : Nat) (st : List Nat) (out : PNet) (cnt : Nat) (vs vo : Value) : Prop where
  ne : B.b4 < B.b9 ∧ B.b5 < B.b7 ∧ B.b3 < B.b10
  ge : base ≤ B.b3 ∧ base ≤ B.b4 ∧ base ≤ B.b5 ∧ base ≤ B.b6 ∧ base ≤ B.b7 ∧ base ≤ B.b8 ∧ base ≤ B.b9 ∧ base ≤ B.b10 ∧ base ≤ B.m
  below : Below base w0 W
  most_ : Holds W B.b3 3 [.int .i64 (most : Int)]
  r4 : Holds W B.b4 24 [.slice none 0 0]
  r5 : Holds W B.b5 46 [.slice none 0 0]
  r6 : Holds W B.b6 28 [.int .i64 0]
  states : Holds W B.b7 46 [vs]
  row : W.ownsRow base 9 1 vs st.length (st.map fun m => .string (keyS m))
  maps : Holds W B.b8 84 [.map (some B.m)]
  num : NumV W B.m st.length st
  outs : Holds W B.b9 24 [vo]
  nodes : ∃ fo, W.ownsRow base 53 5 vo out.length fo ∧ LsF NodeF P W out fo
  far : ∀ k, P k → ExP base B vs vo k
  cnt_ : Holds W B.b10 3 [.int .i64 (cnt : Int)]
theorem Holds.kept_row {w w' : World} {g : Nat} {t : TypeId} {cs : List Value} {row : Option Nat} (h : Holds w g t cs) (hg : w.grownBy w' row) (hr : ∀ r, row = some r → ∃ o : Obj, w.heap[r]? = some o ∧ o.isCells = false) : Holds w' g t cs :=
  h.of_eq (hg.block g h.lt fun e => by
    obtain ⟨o, ho, hc⟩ := hr g e.symm
    unfold Holds at h
    rw [h] at ho
    cases ho
    cases hc)
theorem owns_kept {w w' : World} {base sz n : Nat} {e : TypeId} {v : Value} {xs : List Value} {row : Option Nat} (h : w.ownsRow base e sz v n xs) (hg : w.grownBy w' row) (hr : ∀ r, row = some r → ∃ o : Obj, w.heap[r]? = some o ∧ o.isCells = false) : w'.ownsRow base e sz v n xs := by
  refine ((Fr.refl (fun k => row = some k) w).grown hg fun k hk _ => hk).owns h fun g hgo hrow => ?_
  obtain ⟨o, ho, hc⟩ := hr g hrow
  rcases h.2 with ⟨h0, _⟩ | ⟨g', cap, cur, hv, _, hh, _⟩
  · rw [h0] at hgo; simp [Value.ownBlock] at hgo
  · rw [hv] at hgo
    simp only [Value.ownBlock, Option.some.injEq] at hgo
    subst hgo
    rw [hh] at ho
    cases ho
    cases hc
theorem ExV.kept {base hi : Nat} {P : Nat → Prop} {B : ExB} {w0 W W' : World} {most : Nat} {st : List Nat} {out : PNet} {cnt : Nat} {vs vo : Value} {row : Option Nat} (h : ExV base P B w0 W most st out cnt vs vo) (hg : W.grownBy W' row)
    (hr : ∀ r, row = some r → hi ≤ r ∧ ∃ o : Obj, W.heap[r]? = some o ∧ o.isCells = false) (hm : B.m < hi) (hb : base ≤ hi) (hP : ∀ k, P k → k < hi) : ExV base P B w0 W' most st out cnt vs vo := by
  have hr2 : ∀ r, row = some r → ∃ o : Obj, W.heap[r]? = some o ∧ o.isCells = false := fun r e => (hr r e).2
  obtain ⟨fo, h1, h2⟩ := h.nodes
  refine ⟨h.ne, h.ge, ?_, h.most_.kept_row hg hr2, h.r4.kept_row hg hr2, h.r5.kept_row hg hr2, h.r6.kept_row hg hr2, h.states.kept_row hg hr2, owns_kept h.row hg hr2, h.maps.kept_row hg hr2, h.num.of_eq (hg.block _ h.num.lt fun e => by have := (hr _ e.symm).1; omega), h.outs.kept_row hg hr2, ⟨fo, owns_kept h1 hg hr2, ?_⟩, h.far, h.cnt_.kept_row hg hr2⟩
  · have hl := h.below.size
    have hge : base ≤ W.heap.size := by have := h.states.lt; have := h.ge; omega
    exact h.below.grown hg hge fun k hk => by have := (hr k hk).1; omega
  · exact LsF.up (fun _ _ => oneNode.up fun k hk hs => hg.block k hs fun e => by have := (hr k e.symm).1; have := hP k hk; omega) _ h2
theorem HoldsR.kept_row {w w' : World} {g : Nat} {t : TypeId} {cs : List Value} {row : Option Nat} (h : HoldsR w g t cs) (hg : w.grownBy w' row) (hr : ∀ r, row = some r → ∃ o : Obj, w.heap[r]? = some o ∧ o.isCells = false) : HoldsR w' g t cs :=
  h.of_eq (hg.block g h.lt fun e => by
    obtain ⟨o, ho, hc⟩ := hr g e.symm
    obtain ⟨fr, h⟩ := h
    rw [h] at ho
    cases ho
    cases hc)
theorem RowL.kept {P : Nat → Prop} {w w' : World} {size n : Nat} {v : Value} {f : List Value} {row : Option Nat} (h : RowL P w size v n f) (hg : w.grownBy w' row) (hr : ∀ r, row = some r → ∃ o : Obj, w.heap[r]? = some o ∧ o.isCells = false) : RowL P w' size v n f := by
  obtain ⟨a, cap, h1, h2, h3, h4, h5, h6⟩ := h
  refine ⟨a, cap, h1, h2, h3, h4, h5, fun hn => ?_⟩
  obtain ⟨g, o, cs, t, k1, k2, k3, k4⟩ := h6 hn
  exact ⟨g, o, cs, t, k1, k2, k3.kept_row hg hr, k4⟩
theorem ArcF.kept {P : Nat → Prop} {w w' : World} {a : PArc} {c : List Value} {row : Option Nat} (hg : w.grownBy w' row) (hr : ∀ r, row = some r → ∃ o : Obj, w.heap[r]? = some o ∧ o.isCells = false) (h : ArcF P w a c) : ArcF P w' a c := by
  obtain ⟨vr, vw, h1, h2, h3⟩ := h
  exact ⟨vr, vw, h1, h2.kept hg hr, h3.kept hg hr⟩
/-- What lies before the loop. -/
theorem ExV.start {w w1 w2 w3 W : World} {most : Nat} (hw1 : w1 = ((((w.alloc (.cells #[.int .i64 (most : Int)] 3)).alloc (.cells #[.slice none 0 0] 24)).alloc (.cells #[.slice none 0 0] 46)).alloc (.cells #[.int .i64 0] 28)))
    (hb2 : Below w1.heap.size w1 w2) (hnum : NumV w3 (w2.heap.size + 1 + 1) 1 [0])
    (hgr : (((w2.alloc (.cells #[.string (keyS 0)] 9)).alloc (.cells #[.slice (some ⟨w2.heap.size, 0, none⟩) 1 1] 46)).alloc (.map #[] 0)).grownBy w3 (some (w2.heap.size + 1 + 1)))
    (hW : W = ((w3.alloc (.cells #[.map (some (w2.heap.size + 1 + 1))] 84)).alloc (.cells #[.slice none 0 0] 24)).alloc (.cells #[.int .i64 0] 3)) :
    ExV w.heap.size (fun _ => False) ⟨w.heap.size, w.heap.size + 1, w.heap.size + 1 + 1, w.heap.size + 1 + 1 + 1, w2.heap.size + 1, w3.heap.size, w3.heap.size + 1, w3.heap.size + 1 + 1, w2.heap.size + 1 + 1⟩ w W most [0] [] 0 (.slice (some ⟨w2.heap.size, 0, none⟩) 1 1) (.slice none 0 0) := by
  have s1 : w1.heap.size = w.heap.size + 1 + 1 + 1 + 1 := by rw [hw1]; simp
  have s2 := hb2.size
  have s3 := hgr.size
  simp only [World.size_alloc] at s3
  have q3 : Holds w1 w.heap.size 3 [.int .i64 (most : Int)] := by rw [hw1]; exact (((Holds.new w 3 #[_]).alloc _).alloc _).alloc _
  have q4 : Holds w1 (w.heap.size + 1) 24 [.slice none 0 0] := by
    have h := Holds.new (w.alloc (.cells #[.int .i64 (most : Int)] 3)) 24 #[.slice none 0 0]
    simp only [World.size_alloc] at h
    rw [hw1]; exact (h.alloc _).alloc _
  have q5 : Holds w1 (w.heap.size + 1 + 1) 46 [.slice none 0 0] := by
    have h := Holds.new ((w.alloc (.cells #[.int .i64 (most : Int)] 3)).alloc (.cells #[.slice none 0 0] 24)) 46 #[.slice none 0 0]
    simp only [World.size_alloc] at h
    rw [hw1]; exact h.alloc _
  have q6 : Holds w1 (w.heap.size + 1 + 1 + 1) 28 [.int .i64 0] := by
    have h := Holds.new (((w.alloc (.cells #[.int .i64 (most : Int)] 3)).alloc (.cells #[.slice none 0 0] 24)).alloc (.cells #[.slice none 0 0] 46)) 28 #[.int .i64 0]
    simp only [World.size_alloc] at h
    rw [hw1]; exact h
  have q7 : Holds (((w2.alloc (.cells #[.string (keyS 0)] 9)).alloc (.cells #[.slice (some ⟨w2.heap.size, 0, none⟩) 1 1] 46)).alloc (.map #[] 0)) (w2.heap.size + 1) 46 [.slice (some ⟨w2.heap.size, 0, none⟩) 1 1] := by
    have h := Holds.new (w2.alloc (.cells #[.string (keyS 0)] 9)) 46 #[.slice (some ⟨w2.heap.size, 0, none⟩) 1 1]
    simp only [World.size_alloc] at h
    exact h.alloc _
  have qs : Holds (((w2.alloc (.cells #[.string (keyS 0)] 9)).alloc (.cells #[.slice (some ⟨w2.heap.size, 0, none⟩) 1 1] 46)).alloc (.map #[] 0)) w2.heap.size 9 [.string (keyS 0)] := ((Holds.new w2 9 #[.string (keyS 0)]).alloc _).alloc _
  have up : ∀ {g : Nat} {t : TypeId} {cs : List Value}, Holds (((w2.alloc (.cells #[.string (keyS 0)] 9)).alloc (.cells #[.slice (some ⟨w2.heap.size, 0, none⟩) 1 1] 46)).alloc (.map #[] 0)) g t cs → g ≠ w2.heap.size + 1 + 1 → Holds W g t cs := fun {g t cs} h hne => by
    rw [hW]
    exact (((h.of_eq (hgr.block g h.lt fun e => hne (by injection e))).alloc _).alloc _).alloc _
  have up1 : ∀ {g : Nat} {t : TypeId} {cs : List Value}, Holds w1 g t cs → Holds W g t cs := fun {g t cs} h => by
    have hl := (h.belowAll hb2).lt
    exact up ((((h.belowAll hb2).alloc _).alloc _).alloc _) (by omega)
  have hbel : Below w.heap.size w W := by
    have h1 : Below w.heap.size w w1 := by rw [hw1]; exact ((((Below.refl _ w).alloc (Nat.le_refl _) _).alloc (by simp) _).alloc (by simp; omega) _).alloc (by simp; omega) _
    have h2 : Below w.heap.size w w2 := h1.trans (hb2.mono h1.size)
    have h3 : Below w.heap.size w w3 := ((((h2.alloc h2.size _).alloc (by simp; omega) _).alloc (by simp; omega) _)).grown hgr (by simp; omega) fun k hk => by injection hk with hk; omega
    rw [hW]
    exact ((h3.alloc h3.size _).alloc (by simp; omega) _).alloc (by simp; omega) _
  refine ⟨⟨by dsimp only; omega, by dsimp only; omega, by dsimp only; omega⟩, ⟨by dsimp only; omega, by dsimp only; omega, by dsimp only; omega, by dsimp only; omega, by dsimp only; omega, by dsimp only; omega, by dsimp only; omega, by dsimp only; omega, by dsimp only; omega⟩, hbel, up1 q3, up1 q4, up1 q5, up1 q6, up q7 (by dsimp only; omega), owns_lit (up qs (by omega)) (by omega) rfl (by omega), ?_, ?_, ?_, ⟨[], ⟨rfl, .inl ⟨rfl, rfl⟩⟩, rfl⟩, (fun _ h => h.elim), ?_⟩
  · rw [hW]; exact ((Holds.new w3 84 #[_]).alloc _).alloc _
  · rw [hW]; exact ((hnum.alloc _).alloc _).alloc _
  · have h := Holds.new (w3.alloc (.cells #[.map (some (w2.heap.size + 1 + 1))] 84)) 24 #[.slice none 0 0]
    simp only [World.size_alloc] at h
    rw [hW]; exact h.alloc _
  · have h := Holds.new ((w3.alloc (.cells #[.map (some (w2.heap.size + 1 + 1))] 84)).alloc (.cells #[.slice none 0 0] 24)) 3 #[.int .i64 0]
    simp only [World.size_alloc] at h
    rw [hW]; exact h
end Go.Proofs.Ytcedenoicmpjmaa
end
