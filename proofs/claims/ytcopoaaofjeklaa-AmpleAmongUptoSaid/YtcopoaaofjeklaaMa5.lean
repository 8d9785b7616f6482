/- Ex, Key, Map, MapIn, Gsy, joined. -/
import Derived.Test.YtcopoaaofjeklaaNode
import Derived.Maps.OwnIn
import Derived.Maps.OwnOps
import Derived.Test.YtcopoaaofjeklaaMa4
section
/- Exploring a graph, plain. -/
namespace Go.Proofs.Ytcopoaaofjeklaa
open Go.RowKit
set_option linter.unusedVariables false
set_option linter.unusedSimpArgs false

def PArc.goes (a : PArc) (t : Int) : PArc := ⟨a.proc, t, a.bad, a.reads, a.writes, a.turns⟩
def stepA (most : Nat) (st : List Nat) (a : PArc) : Option (List Nat × PArc) :=
  if a.bad = 0 then
    if a.to.toNat ∈ st then some (st, a.goes ((st.idxOf a.to.toNat : Int)))
    else if st.length = most then none else some (st ++ [a.to.toNat], a.goes ((st.length : Int)))
  else some (st, a.goes (0))
def stepAs (most : Nat) : List Nat → List PArc → Option (List Nat × List PArc)
  | st, [] => some (st, [])
  | st, a :: l => match stepA most st a with
    | none => none
    | some (st1, b) => match stepAs most st1 l with
      | none => none
      | some (st2, bs) => some (st2, b :: bs)
def exF (N : PNet) (most : Nat) : Nat → Nat → List Nat → Option (List Nat × PNet)
  | 0, _, _ => none
  | fu + 1, i, st => match st[i]? with
    | none => some (st, [])
    | some s => match N[s]? with
      | none => none
      | some x => match stepAs most st x.arcs with
        | none => none
        | some (st1, bs) => match exF N most fu (i + 1) st1 with
          | none => none
          | some (st2, out) => some (st2, { x with arcs := bs } :: out)
theorem nodup_bound : ∀ (n : Nat) (l : List Nat), l.Nodup → (∀ x ∈ l, x < n) → l.length ≤ n
  | 0, [], _, _ => Nat.le_refl _
  | 0, a :: l, _, h => absurd (h a (by simp)) (Nat.not_lt_zero _)
  | n + 1, l, hd, h => by
    by_cases hm : n ∈ l
    · have h1 := nodup_bound n (l.erase n) (hd.erase n) (fun x hx => by
        obtain ⟨h2, h3⟩ := (hd.mem_erase_iff).1 hx
        have := h x h3
        omega)
      rw [List.length_erase_of_mem hm] at h1
      omega
    · have h1 := nodup_bound n l hd (fun x hx => by
        have := h x hx
        have : x ≠ n := fun e => hm (e ▸ hx)
        omega)
      omega
def arcsAt (N : PNet) (s : Nat) : Nat := (N.getD s zeroN).arcs.length
theorem sum_bound (N : PNet) : ∀ (n : Nat) (l : List Nat), n ≤ N.length → l.Nodup → (∀ x ∈ l, x < n) → (l.map (arcsAt N)).sum ≤ total (N.take n)
  | 0, [], _, _, _ => Nat.zero_le _
  | 0, a :: l, _, _, h => absurd (h a (by simp)) (Nat.not_lt_zero _)
  | n + 1, l, hn, hd, h => by
    have ht := total_take (n := N) (k := n) (by omega)
    by_cases hm : n ∈ l
    · have h1 := sum_bound N n (l.erase n) (by omega) (hd.erase n) (fun x hx => by
        obtain ⟨h2, h3⟩ := (hd.mem_erase_iff).1 hx
        have := h x h3
        omega)
      have h2 := ((List.perm_cons_erase hm).map (arcsAt N)).sum_nat
      simp only [List.map_cons, List.sum_cons] at h2
      have h3 : arcsAt N n = N[n].arcs.length := by
        unfold arcsAt
        rw [List.getD_eq_getElem?_getD, List.getElem?_eq_getElem (by omega)]
        rfl
      omega
    · have h1 := sum_bound N n l (by omega) hd (fun x hx => by
        have := h x hx
        have : x ≠ n := fun e => hm (e ▸ hx)
        omega)
      omega
theorem range_idxOf : ∀ (n j : Nat), j < n → (List.range n).idxOf j = j
  | n + 1, j, h => by
    rw [List.range_succ, List.idxOf_append]
    by_cases hj : j < n
    · rw [if_pos (List.mem_range.2 hj), range_idxOf n j hj]
    · obtain rfl : j = n := by omega
      rw [if_neg (by simp)]
      simp
theorem stepA_old {most : Nat} {st : List Nat} {a : PArc} (hb : a.bad = 0) (h : a.to.toNat ∈ st) : stepA most st a = some (st, a.goes (st.idxOf a.to.toNat : Int)) := by
  unfold stepA
  rw [if_pos hb, if_pos h]
theorem stepA_new {most : Nat} {st : List Nat} {a : PArc} (hb : a.bad = 0) (h : ¬ a.to.toNat ∈ st) (hm : ¬ st.length = most) : stepA most st a = some (st ++ [a.to.toNat], a.goes (st.length : Int)) := by
  unfold stepA
  rw [if_pos hb, if_neg h, if_neg hm]
theorem stepA_bad {most : Nat} {st : List Nat} {a : PArc} (hb : ¬ a.bad = 0) : stepA most st a = some (st, a.goes 0) := by
  unfold stepA
  rw [if_neg hb]
theorem stepA_len {most : Nat} {st st1 : List Nat} {a b : PArc} (h : stepA most st a = some (st1, b)) : st.length ≤ st1.length := by
  unfold stepA at h
  split at h
  · split at h
    · injection h with h; injection h with h _; subst h; exact Nat.le_refl _
    · split at h
      · cases h
      · injection h with h; injection h with h _; subst h; simp
  · injection h with h; injection h with h _; subst h; exact Nat.le_refl _
theorem stepAs_len {most : Nat} : ∀ {l : List PArc} {st st1 : List Nat} {bs : List PArc}, stepAs most st l = some (st1, bs) → st.length ≤ st1.length
  | [], st, st1, bs, h => by
    rw [stepAs] at h; injection h with h; injection h with h _; subst h; exact Nat.le_refl _
  | a :: l, st, st1, bs, h => by
    rw [stepAs] at h
    split at h
    · cases h
    · rename_i st' b h1
      split at h
      · cases h
      · rename_i st2 bs2 h2
        injection h with h; injection h with h _; subst h
        exact Nat.le_trans (stepA_len h1) (stepAs_len h2)
theorem exF_len {N : PNet} {most : Nat} : ∀ {fu i : Nat} {st st1 : List Nat} {out : PNet}, exF N most fu i st = some (st1, out) → st.length ≤ st1.length ∧ (i ≤ st.length → st1.length = i + out.length)
  | 0, i, st, st1, out, h => by rw [exF] at h; cases h
  | fu + 1, i, st, st1, out, h => by
    rw [exF] at h
    split at h
    · rename_i h0
      injection h with h; injection h with h h'; subst h; subst h'
      have := List.getElem?_eq_none_iff.1 h0
      exact ⟨Nat.le_refl _, fun hi => by simp; omega⟩
    · rename_i s h0
      have hi := (List.getElem?_eq_some_iff.1 h0).1
      split at h
      · cases h
      · split at h
        · cases h
        · rename_i st' bs h1
          split at h
          · cases h
          · rename_i st2 out2 h2
            injection h with h; injection h with h h'; subst h; subst h'
            have l1 := stepAs_len h1
            obtain ⟨l2, l3⟩ := exF_len h2
            exact ⟨by omega, fun _ => by have := l3 (by omega); simp; omega⟩
/-- What is explored again is met in the same order. -/
theorem stepA_again {most most2 : Nat} {st st1 : List Nat} {a b : PArc} (h : stepA most st a = some (st1, b)) (hm : st1.length ≤ most2) : stepA most2 (List.range st.length) b = some (List.range st1.length, b) := by
  unfold stepA at h
  split at h
  · rename_i hb
    split at h
    · rename_i hin
      injection h with h; injection h with h h'; subst h; subst h'
      have hj : st.idxOf a.to.toNat < st.length := List.idxOf_lt_length_of_mem hin
      refine (stepA_old (a := a.goes (st.idxOf a.to.toNat : Int)) hb (List.mem_range.2 hj)).trans ?_
      show some (_, a.goes ((List.range st.length).idxOf (st.idxOf a.to.toNat) : Int)) = _
      rw [range_idxOf _ _ hj]
    · split at h
      · cases h
      · injection h with h; injection h with h h'; subst h; subst h'
        simp only [List.length_append, List.length_cons, List.length_nil, Nat.zero_add] at hm
        refine (stepA_new (most := most2) (st := List.range st.length) (a := a.goes (st.length : Int)) hb (fun hh => Nat.lt_irrefl _ (List.mem_range.1 hh)) (by rw [List.length_range]; omega)).trans ?_
        show some (List.range st.length ++ [st.length], a.goes ((List.range st.length).length : Int)) = _
        rw [List.length_range, List.length_append, List.length_cons, List.length_nil, List.range_succ]
  · rename_i hb
    injection h with h; injection h with h h'; subst h; subst h'
    exact stepA_bad (a := a.goes 0) hb
theorem stepAs_again {most most2 : Nat} : ∀ {l : List PArc} {st st1 : List Nat} {bs : List PArc}, stepAs most st l = some (st1, bs) → st1.length ≤ most2 → stepAs most2 (List.range st.length) bs = some (List.range st1.length, bs)
  | [], st, st1, bs, h, hm => by
    rw [stepAs] at h; injection h with h; injection h with h h'; subst h; subst h'; rw [stepAs]
  | a :: l, st, st1, bs, h, hm => by
    rw [stepAs] at h
    split at h
    · cases h
    · rename_i st' b h1
      split at h
      · cases h
      · rename_i st2 bs2 h2
        injection h with h; injection h with h h'; subst h; subst h'
        have := stepAs_len h2
        rw [stepAs, stepA_again h1 (by omega)]
        simp only
        rw [stepAs_again h2 hm]
theorem exF_again {N g : PNet} {most most2 : Nat} : ∀ {fu i : Nat} {st st1 : List Nat} {out : PNet}, exF N most fu i st = some (st1, out) → g.drop i = out → st1.length ≤ most2 → exF g most2 fu i (List.range st.length) = some (List.range st1.length, out)
  | 0, i, st, st1, out, h, hg, hm => by rw [exF] at h; cases h
  | fu + 1, i, st, st1, out, h, hg, hm => by
    rw [exF] at h
    split at h
    · rename_i h0
      injection h with h; injection h with h h'; subst h; subst h'
      have := List.getElem?_eq_none_iff.1 h0
      rw [exF, List.getElem?_eq_none (by simpa using this)]
    · rename_i s h0
      have hi := (List.getElem?_eq_some_iff.1 h0).1
      split at h
      · cases h
      · rename_i x hx
        split at h
        · cases h
        · rename_i st' bs h1
          split at h
          · cases h
          · rename_i st2 out2 h2
            injection h with h; injection h with h h'; subst h; subst h'
            have hl := exF_len h2
            have hg0 : g[i]? = some { x with arcs := bs } := by
              have : (g.drop i)[0]? = some { x with arcs := bs } := by rw [hg]; rfl
              rwa [List.getElem?_drop, Nat.add_zero] at this
            have hgd : g.drop (i + 1) = out2 := by
              rw [← List.drop_drop, hg]; rfl
            rw [exF, List.getElem?_range hi]
            simp only
            rw [hg0]
            simp only
            rw [stepAs_again h1 (by omega)]
            simp only
            rw [exF_again h2 hgd hm]
theorem chkArc_goes {n m : Nat} {a : PArc} {t : Int} (h : chkArc n a = true) (h0 : 0 ≤ t) (h1 : t < (m : Int)) (hb : a.bad = 0 ∨ t = 0) : chkArc m (a.goes t) = true := by
  unfold chkArc at h ⊢
  simp only [Bool.and_eq_true, decide_eq_true_eq, Bool.or_eq_true, beq_iff_eq] at h ⊢
  obtain ⟨⟨⟨⟨⟨⟨⟨⟨h1', h2⟩, h3⟩, h4⟩, h5⟩, h6⟩, h7⟩, h8⟩, h9⟩ := h
  exact ⟨⟨⟨⟨⟨⟨⟨⟨h1', h2⟩, h3⟩, h4⟩, h5⟩, h6⟩, h0⟩, h1⟩, hb⟩
theorem chkArc_mono {n m : Nat} {a : PArc} (h : chkArc n a = true) (hm : n ≤ m) : chkArc m a = true := by
  unfold chkArc at h ⊢
  simp only [Bool.and_eq_true, decide_eq_true_eq, Bool.or_eq_true, beq_iff_eq] at h ⊢
  obtain ⟨⟨⟨⟨⟨⟨⟨⟨h1', h2⟩, h3⟩, h4⟩, h5⟩, h6⟩, h7⟩, h8⟩, h9⟩ := h
  exact ⟨⟨⟨⟨⟨⟨⟨⟨h1', h2⟩, h3⟩, h4⟩, h5⟩, h6⟩, h7⟩, by omega⟩, h9⟩
theorem chkArc_to {n : Nat} {a : PArc} (h : chkArc n a = true) : 0 ≤ a.to ∧ a.to < (n : Int) := by
  unfold chkArc at h
  simp only [Bool.and_eq_true, decide_eq_true_eq, Bool.or_eq_true, beq_iff_eq] at h
  obtain ⟨⟨⟨⟨⟨⟨⟨⟨h1', h2⟩, h3⟩, h4⟩, h5⟩, h6⟩, h7⟩, h8⟩, h9⟩ := h
  exact ⟨h7, h8⟩
/-- The nodes that are met: unlike, and nodes of the graph. -/
structure Met (n : Nat) (st : List Nat) : Prop where
  nodup : st.Nodup
  lt : ∀ x ∈ st, x < n
  pos : 0 < st.length
theorem stepA_ok {n most : Nat} {st : List Nat} {a : PArc} (h : Met n st) (hm : n ≤ most) (ha : chkArc n a = true) : ∃ st1 b, stepA most st a = some (st1, b) ∧ Met n st1 ∧ st <+: st1 ∧ chkArc st1.length b = true := by
  have hto := chkArc_to ha
  by_cases hb : a.bad = 0
  · by_cases hin : a.to.toNat ∈ st
    · refine ⟨_, _, stepA_old hb hin, h, List.prefix_refl _, chkArc_goes ha (by omega) ?_ (.inl hb)⟩
      have := List.idxOf_lt_length_of_mem hin
      omega
    · have hM : Met n (st ++ [a.to.toNat]) := by
        refine ⟨?_, ?_, by simp⟩
        · rw [List.nodup_append]
          refine ⟨h.nodup, by simp, fun x hx y hy e => ?_⟩
          rw [List.mem_singleton] at hy
          exact hin (by rw [← hy, ← e]; exact hx)
        · intro x hx
          rcases List.mem_append.1 hx with hx | hx
          · exact h.lt x hx
          · rw [List.mem_singleton] at hx; omega
      have hl := nodup_bound n _ hM.nodup hM.lt
      rw [List.length_append, List.length_cons, List.length_nil] at hl
      refine ⟨_, _, stepA_new hb hin (by omega), hM, List.prefix_append _ _, chkArc_goes ha (by omega) ?_ (.inl hb)⟩
      simp
      omega
  · refine ⟨_, _, stepA_bad hb, h, List.prefix_refl _, chkArc_goes ha (by omega) ?_ (.inr rfl)⟩
    have := h.pos
    omega
theorem stepAs_ok {n most : Nat} : ∀ {l : List PArc} {st : List Nat}, Met n st → n ≤ most → (∀ a ∈ l, chkArc n a = true) → ∃ st1 bs, stepAs most st l = some (st1, bs) ∧ Met n st1 ∧ st <+: st1 ∧ bs.length = l.length ∧ ∀ b ∈ bs, chkArc st1.length b = true
  | [], st, h, hm, ha => ⟨st, [], by rw [stepAs], h, List.prefix_refl _, rfl, fun b hb => by cases hb⟩
  | a :: l, st, h, hm, ha => by
    obtain ⟨st1, b, h1, h2, h3, h4⟩ := stepA_ok h hm (ha a (by simp))
    obtain ⟨st2, bs, k1, k2, k3, k4, k5⟩ := stepAs_ok (l := l) h2 hm (fun x hx => ha x (by simp [hx]))
    refine ⟨st2, b :: bs, by rw [stepAs, h1]; simp only; rw [k1], k2, h3.trans k3, by simp [k4], fun x hx => ?_⟩
    rcases List.mem_cons.1 hx with rfl | hx
    · exact chkArc_mono h4 k3.length_le
    · exact k5 x hx
theorem exF_ok {N : PNet} {most : Nat} (hN : chk N = true) (hm : N.length ≤ most) : ∀ {fu i : Nat} {st : List Nat}, Met N.length st → N.length < fu + i → i ≤ st.length →
    ∃ st1 out, exF N most fu i st = some (st1, out) ∧ Met N.length st1 ∧ st <+: st1 ∧ (∀ x ∈ out, ∀ b ∈ x.arcs, chkArc st1.length b = true) ∧ total out = ((st1.drop i).map (arcsAt N)).sum
  | 0, i, st, h, hf, hi => by
    have := nodup_bound _ _ h.nodup h.lt
    omega
  | fu + 1, i, st, h, hf, hi => by
    by_cases hil : i < st.length
    · have hs := h.lt _ (List.getElem_mem hil)
      have hall : ∀ a ∈ N[st[i]].arcs, chkArc N.length a = true := fun a ha => by
        unfold chk at hN
        simp only [Bool.and_eq_true] at hN
        have h1 := List.all_eq_true.1 hN.1.2 N[st[i]] (List.getElem_mem hs)
        exact List.all_eq_true.1 h1 a ha
      obtain ⟨st1, bs, h1, h2, h3, h4, h5⟩ := stepAs_ok h hm hall
      obtain ⟨st2, out, k1, k2, k3, k4, k5⟩ := exF_ok hN hm (fu := fu) (i := i + 1) h2 (by omega) (by have := h3.length_le; omega)
      refine ⟨st2, { N[st[i]] with arcs := bs } :: out, ?_, k2, h3.trans k3, fun x hx b hb => ?_, ?_⟩
      · rw [exF, List.getElem?_eq_getElem hil]
        simp only
        rw [List.getElem?_eq_getElem hs]
        simp only
        rw [h1]
        simp only
        rw [k1]
      · rcases List.mem_cons.1 hx with rfl | hx
        · exact chkArc_mono (h5 b hb) k3.length_le
        · exact k4 x hx b hb
      · have hp := h3.trans k3
        have hl2 : i < st2.length := Nat.lt_of_lt_of_le hil hp.length_le
        have he : st2[i] = st[i] := (hp.getElem hil).symm
        rw [List.drop_eq_getElem_cons hl2, List.map_cons, List.sum_cons, ← k5, he]
        have : arcsAt N st[i] = bs.length := by
          unfold arcsAt
          rw [List.getD_eq_getElem?_getD, List.getElem?_eq_getElem hs, h4]
          rfl
        rw [this]
        rfl
    · refine ⟨st, [], by rw [exF, List.getElem?_eq_none (by omega)], h, List.prefix_refl _, (fun x hx => by cases hx), ?_⟩
      rw [List.drop_of_length_le (by omega)]
      rfl
/-- A graph that may be is explored; what is found may be too, and explored again it is the same. -/
theorem again {N : PNet} (hN : chk N = true) : ∃ st g, exF N 20000 20001 0 [0] = some (st, g) ∧ st.length = g.length ∧ st.length ≤ N.length ∧ Met N.length st ∧ chk g = true ∧ exF g st.length 20001 0 [0] = some (List.range g.length, g) := by
  have hN2 := hN
  unfold chk at hN2
  simp only [Bool.and_eq_true, decide_eq_true_eq] at hN2
  obtain ⟨⟨⟨n1, n2⟩, _⟩, n4⟩ := hN2
  have hM : Met N.length [0] := ⟨by simp, by simp; omega, by simp⟩
  obtain ⟨st, g, h1, h2, h3, h4, h5⟩ := exF_ok hN n2 (fu := 20001) (i := 0) hM (by omega) (by simp)
  have hl := (exF_len h1).2 (by simp)
  have hb := nodup_bound _ _ h2.nodup h2.lt
  have hs := sum_bound N N.length st (Nat.le_refl _) h2.nodup h2.lt
  rw [List.take_length] at hs
  rw [List.drop_zero] at h5
  have hp := h2.pos
  refine ⟨st, g, h1, by omega, hb, h2, ?_, ?_⟩
  · unfold chk
    simp only [Bool.and_eq_true, decide_eq_true_eq]
    refine ⟨⟨⟨by omega, by omega⟩, List.all_eq_true.2 fun x hx => List.all_eq_true.2 fun b hb => ?_⟩, by omega⟩
    have := h4 x hx b hb
    rwa [hl, Nat.zero_add] at this
  · have := exF_again (g := g) (most2 := st.length) h1 rfl (Nat.le_refl _)
    rw [show g.length = st.length by omega]
    exact this
end Go.Proofs.Ytcopoaaofjeklaa
end
section
/- A node's name as bytes: plain. -/
namespace Go.Proofs.Ytcopoaaofjeklaa
open Go.RowKit
set_option linter.unusedVariables false
set_option linter.unusedSimpArgs false

theorem u8_toNat {n : Nat} (h : n < 256) : (UInt8.ofNat n).toNat = n := by
  have := u8_of h
  omega
theorem decF_enc : ∀ (j m k n f : Nat) (r : Bs), m < 128 ^ (j + 1) → k + j < 9 → j < f → (k = 0 ∨ 0 < m) → decF f k n (enc m ++ r) = .ok (n + m * 128 ^ k) (k + (enc m).length)
  | j, m, k, n, 0, r, _, _, hf, _ => absurd hf (Nat.not_lt_zero _)
  | j, m, k, n, f + 1, r, hm, hk, hf, h0 => by
    by_cases hs : m < 128
    · rw [enc_lt hs]
      simp only [List.cons_append, List.nil_append, List.length_cons, List.length_nil]
      rw [decF]
      simp only [u8_toNat (n := m) (by omega)]
      rw [if_neg (by omega), if_pos hs, if_neg (by omega)]
    · match j, hm, hk, hf with
      | 0, hm, _, _ => exact absurd (by simpa using hm) hs
      | j + 1, hm, hk, hf =>
        rw [enc_ge hs]
        simp only [List.cons_append, List.length_cons]
        rw [decF]
        simp only [u8_toNat (n := 128 + m % 128) (by omega)]
        rw [if_neg (by omega), if_neg (by omega)]
        have hd : m / 128 < 128 ^ (j + 1) := by rw [Nat.div_lt_iff_lt_mul (by omega)]; rw [Nat.pow_succ] at hm; exact hm
        rw [decF_enc j (m / 128) (k + 1) _ f r hd (by omega) (by omega) (.inr (by omega))]
        have e1 : (128 + m % 128) % 128 = m % 128 := by omega
        have e2 : m = m % 128 + 128 * (m / 128) := by omega
        have e3 : m * 128 ^ k = m % 128 * 128 ^ k + m / 128 * 128 ^ (k + 1) := by
          rw [Nat.pow_succ, Nat.mul_comm (128 ^ k) 128, ← Nat.mul_assoc, ← Nat.add_mul, Nat.mul_comm (m / 128) 128, ← e2]
        rw [e1, e3]
        congr 1 <;> omega
theorem dec_enc {m : Nat} (h : m ≤ 20000) (r : Bs) : dec (enc m ++ r) = .ok m (enc m).length := by
  unfold dec
  rw [decF_enc 2 m 0 0 10 r (by omega) (by omega) (by omega) (.inl rfl)]
  simp
theorem nums_enc {m : Nat} (h : m ≤ 20000) : nums 20000 1 (enc m) = some ([m], []) := by
  have := dec_enc h []
  rw [List.append_nil] at this
  rw [nums, this]
  simp only
  rw [if_neg (by omega), List.drop_length, nums]
theorem nodeOf_enc {N : PNet} {m : Nat} (h : m ≤ 20000) : nodeOf N (enc m) = N[m]? := by
  unfold nodeOf
  rw [nums_enc h]
theorem enc_inj {m n : Nat} (h : enc m = enc n) (hm : m ≤ 20000) (hn : n ≤ 20000) : m = n := by
  have h1 := nums_enc hm
  rw [h, nums_enc hn] at h1
  injection h1 with h1
  injection h1 with h1 _
  injection h1 with h1 _
  exact h1.symm
def keyS (n : Nat) : ByteArray := ⟨(enc n).toArray⟩
theorem keyS_inj {m n : Nat} (h : keyS m = keyS n) (hm : m ≤ 20000) (hn : n ≤ 20000) : m = n := by
  unfold keyS at h
  injection h with h
  injection h with h
  exact enc_inj h hm hn
theorem keyS_list (n : Nat) : (keyS n).data.toList = enc n := rfl
theorem keyS_size {n : Nat} (h : n ≤ 20000) : (keyS n).size ≤ 3 := by
  have := enc_len 2 n (by omega)
  show (enc n).toArray.size ≤ 3
  simpa using this
end Go.Proofs.Ytcopoaaofjeklaa
end
section
/- The numbers of the nodes that are met, as a map. -/
namespace Go.Proofs.Ytcopoaaofjeklaa
open Go.RowKit Go.Maps
set_option linter.unusedVariables false
set_option linter.unusedSimpArgs false

structure NumD (D : DataW Unit) (st : List Nat) : Prop where
  isMap : IsMap D
  has : ∀ m, m ≤ 20000 → Maps.has D (.string (enc m)) = decide (m ∈ st)
  at_ : ∀ m, m ≤ 20000 → m ∈ st → ∀ z, D.atKey (.string (enc m)) z = .lit (.int .i64 (st.idxOf m : Int))
theorem NumD.nil : NumD (.map []) [] := ⟨isMap_empty, fun m _ => by simp [Maps.has], fun m _ h => by cases h⟩
theorem isKey_enc (m : Nat) : WideAt.IsKeyLit (.string (enc m)) := trivial
theorem NumD.put {D : DataW Unit} {st : List Nat} (h : NumD D st) {m : Nat} (hm : m ≤ 20000) (hn : m ∉ st) : NumD (D.put (.string (enc m)) (.lit (.int .i64 (st.length : Int)))) (st ++ [m]) := by
  refine ⟨h.isMap.put _ _, fun k hk => ?_, fun k hk hin z => ?_⟩
  · by_cases e : k = m
    · subst e
      rw [has_put_same h.isMap (isKey_enc k)]
      simp
    · rw [has_put_other (fun he => e (by injection he with he; exact enc_inj he hk hm)), h.has k hk]
      simp [e]
  · by_cases e : k = m
    · subst e
      rw [atKey_put_same h.isMap (isKey_enc k), List.idxOf_append, if_neg hn]
      simp
    · have hks : k ∈ st := by
        rcases List.mem_append.1 hin with h1 | h1
        · exact h1
        · rw [List.mem_singleton] at h1; exact absurd h1 e
      rw [atKey_put_other (fun he => e (by injection he with he; exact enc_inj he hk hm)), h.at_ k hk hks, List.idxOf_append, if_pos hks]
/-- The map in memory. -/
def NumV (w : World) (b n : Nat) (st : List Nat) : Prop := ∃ D : DataW Unit, w.ownsMap Try.prog 9 (plainElem Try.prog 3) b n D ∧ NumD D st
theorem str_keyed : Keyed Try.prog 9 := string_keyed Try.underlying9
theorem key_enc (m : Nat) (h : m ≤ 20000) : keyOf Try.prog 9 (.string (keyS m)) = some (.string (enc m)) := by
  have h1 := keyS_size h
  have h2 : (keyS m).size ≤ maxLen := by unfold maxLen; omega
  unfold keyOf mapKey
  rw [Try.underlying9]
  simp only
  rw [if_pos h2, keyS_list]
theorem NumV.alloc {w : World} {b n : Nat} {st : List Nat} (h : NumV w b n st) (o : Obj) : NumV (w.alloc o) b n st := by
  obtain ⟨D, h1, h2⟩ := h
  exact ⟨D, h1.alloc o, h2⟩
theorem NumV.set {w : World} {b n : Nat} {st : List Nat} (h : NumV w b n st) {p : Addr} (hp : b ≠ p.block) (v : Value) : NumV (w.setCell p v) b n st := by
  obtain ⟨D, h1, h2⟩ := h
  exact ⟨D, h1.setCell hp v, h2⟩
theorem NumV.of_eq {w w' : World} {b n : Nat} {st : List Nat} (h : NumV w b n st) (he : w'.heap[b]? = w.heap[b]?) : NumV w' b n st := by
  obtain ⟨D, ⟨es, clock, hb, F, hs, hD⟩, h2⟩ := h
  exact ⟨D, ⟨es, clock, he.trans hb, F, hs, hD⟩, h2⟩
theorem NumV.lt {w : World} {b n : Nat} {st : List Nat} (h : NumV w b n st) : b < w.heap.size := by
  obtain ⟨D, h1, _⟩ := h
  exact h1.lt
theorem NumV.ne {w : World} {b n g : Nat} {st : List Nat} {t : TypeId} {cs : List Value} (h : NumV w b n st) (hg : Holds w g t cs) : b ≠ g := by
  obtain ⟨D, ⟨es, clock, hb, _⟩, _⟩ := h
  rintro rfl
  unfold Holds at hg
  rw [hb] at hg
  cases hg
end Go.Proofs.Ytcopoaaofjeklaa
end
section
/- The map's operations in the fenced walk. -/
namespace Go.Proofs.Ytcopoaaofjeklaa
open Go.RowKit Go.Maps
set_option linter.unusedVariables false
set_option linter.unusedSimpArgs false

theorem plain_num (k : Nat) (h : k < 9223372036854775808) : plainElem (H := Unit) Try.prog 3 (.int .i64 (k : Int)) = some (.lit (.int .i64 (k : Int)), []) :=
  plainElem_int Try.underlying3 (by simp [Lit.wf, IntKind.min, IntKind.max, IntKind.signed, IntKind.bits]; omega)
section
variable {F : Fence} {n : Nat} {ops : Array Oper} {rest : List Oper} {o : Oper} {a : Act} {Q : Exit → Act → World → Prop} {w : World}
end
end Go.Proofs.Ytcopoaaofjeklaa
end
section
/- Systems of any kind: what their methods tell, exploring them, plain; the numbers of the states that are met, as a map. -/
namespace Go.Proofs.Ytcopoaaofjeklaa.G
open Go.RowKit Go.Maps
set_option linter.unusedVariables false
set_option linter.unusedSimpArgs false

instance : LawfulBEq ByteArray where
  eq_of_beq := fun {a b} h => by
    cases a; cases b
    have h2 := (beq_iff_eq (α := Array UInt8)).1 h
    exact congrArg ByteArray.mk h2
  rfl := fun {a} => by
    cases a
    exact (beq_iff_eq (α := Array UInt8)).2 rfl
/-- A move, its rows apart. -/
structure PMove where
  proc : Int
  edge : Int
  wth : Int
  wthE : Int
  dst : ByteArray
  bad : Int
  reads : List Int
  writes : List Int
  turns : Nat
def mvC (m : PMove) (vr vw : Value) : List Value := [.int .i64 m.proc, .int .i64 m.edge, .int .i64 m.wth, .int .i64 m.wthE, .string m.dst, .int .i64 m.bad, vr, vw, .int .u64 (m.turns : Int)]
def PMove.goes (m : PMove) (t : Int) : PArc := ⟨m.proc, t, m.bad, m.reads, m.writes, m.turns⟩
/-- A system: where it begins, what is seen of a state, what leads from it. -/
structure Sys where
  beg : ByteArray
  look : ByteArray → PNode
  next : ByteArray → List PMove
/-- The sizes of what is told. -/
structure SmallS (S : Sys) : Prop where
  beg : S.beg.size ≤ 1048576
  dsts : ∀ s, s.size ≤ 1048576 → ∀ m ∈ S.next s, m.dst.size ≤ 1048576
  len : ∀ s, s.size ≤ 1048576 → (S.next s).length ≤ 2000000
  reads : ∀ s, s.size ≤ 1048576 → ∀ m ∈ S.next s, m.reads.length ≤ 2000000 ∧ m.writes.length ≤ 2000000
def Tells (l : List PMove) (pre : List Value) (x : Value) (W0 W : World) : Prop := ∃ (h : pre.length < l.length) (vr vw : Value), x = .agg (mvC l[pre.length] vr vw).toArray ∧ RowX W0.heap.size W vr l[pre.length].reads ∧ RowX W0.heap.size W vw l[pre.length].writes
/-- Where a system's value lies among the interfaces. -/
structure Ifc where
  tid : TypeId
  dyn : Value
  fB : Nat
  fL : Nat
  fN : Nat
  fG : Nat
/-- The blocks whose cells a range's body leaves as they were, by their types: a system's own, and numbers that were laid behind lo. -/
def Safe (lo k : Nat) (t : TypeId) : Prop := t = 66 ∨ t = 61 ∨ (t = 3 ∧ lo ≤ k)
theorem safe_not {lo k : Nat} {t : TypeId} (h1 : t ≠ 66) (h2 : t ≠ 61) (h3 : t ≠ 3 ∨ k < lo) : ¬ Safe lo k t := fun h => by
  rcases h with h | h | ⟨h, h4⟩
  · exact h1 h
  · exact h2 h
  · rcases h3 with h3 | h3
    · exact h3 h
    · omega
/-- What a body leaves as it was. -/
structure KpT (n₀ lo : Nat) (A B : World) : Prop where
  below : Below n₀ A B
  safe : ∀ k t cs, Safe lo k t → Holds A k t cs → Holds B k t cs
theorem KpT.trans {n₀ lo : Nat} {A B C : World} (h : KpT n₀ lo A B) (h2 : KpT n₀ lo B C) : KpT n₀ lo A C := ⟨belowK_t h.below h2.below, fun k t cs hs hh => h2.safe k t cs hs (h.safe k t cs hs hh)⟩
theorem KpT.put {n₀ lo : Nat} {w : World} (hz : n₀ ≤ w.heap.size) (W : World) (l : Nat) (o o' : Obj) (hl : w.heap.size ≤ l) (ho : W.heap[l]? = some o) (hc : o.isCells = false) (hw : o.isWalk = false) : KpT n₀ lo W (W.putObj l o') := ⟨belowK_b hz W l o o' hl ho hc hw, fun k t cs _ hh => by
  have hne : k ≠ l := by
    rintro rfl
    unfold Holds at hh
    rw [ho] at hh
    cases hh
    cases hc
  exact hh.of_eq (World.putObj_heap_other hne)⟩
/-- An iterator that is handed back. -/
def ItV (I : Ifc) (l : List PMove) (b : Nat) (f : Value) (w : World) : Prop := ∃ lb, f = .func (.func I.fG) #[] lb ∧ ∀ (n n₀ : Nat) (w' : World), b ≤ n₀ → n₀ ≤ w'.heap.size → Below w.heap.size w w' → SeqTells Fence.wide n Try.prog I.fG lb (fun x => #[x]) (KpT n₀ w'.heap.size) (Tells l) (fun ys => ys.length = l.length) (fun _ => True) l.length w'
/-- A system's methods tell what the plain one does, in whatever world behind w. -/
structure SysOk (I : Ifc) (S : Sys) (w : World) : Prop where
  mB : ∀ w', (method 252 I.tid I.dyn "Begin").run Try.prog w' = .ok (I.fB, I.dyn) w'
  mL : ∀ w', (method 252 I.tid I.dyn "Look").run Try.prog w' = .ok (I.fL, I.dyn) w'
  mN : ∀ w', (method 252 I.tid I.dyn "Next").run Try.prog w' = .ok (I.fN, I.dyn) w'
  nL : ∀ w', (nilAhead 252 I.tid I.dyn "Look").run Try.prog w' = .ok (some false) w'
  nN : ∀ w', (nilAhead 252 I.tid I.dyn "Next").run Try.prog w' = .ok (some false) w'
  eB : ∀ args w', (callFunc I.fB args).run Try.prog w' = .ok (.enter I.fB args) w'
  eL : ∀ args w', (callFunc I.fL args).run Try.prog w' = .ok (.enter I.fL args) w'
  eN : ∀ args w', (callFunc I.fN args).run Try.prog w' = .ok (.enter I.fN args) w'
  enter : ∀ args w', (callFunc I.fG args).run Try.prog w' = .ok (.enter I.fG args) w'
  small : SmallS S
  beg : ∀ w', Below w.heap.size w w' → Calls Try.prog I.fB #[I.dyn] w' (fun e w'' => e = .returned (.string S.beg) ∧ Below w'.heap.size w' w'')
  look : ∀ w' s, Below w.heap.size w w' → s.size ≤ 1048576 → Calls Try.prog I.fL #[I.dyn, .string s] w' (fun e w'' => Below w'.heap.size w' w'' ∧ e = .returned (sight (S.look s)))
  next : ∀ w' s, Below w.heap.size w w' → s.size ≤ 1048576 → Calls Try.prog I.fN #[I.dyn, .string s] w' (fun e w'' => Below w'.heap.size w' w'' ∧ ∃ f, e = .returned f ∧ ItV I (S.next s) w.heap.size f w'')
theorem SysOk.at {I : Ifc} {S : Sys} {w w1 : World} (h : SysOk I S w) (hb : Below w.heap.size w w1) : SysOk I S w1 :=
  ⟨h.mB, h.mL, h.mN, h.nL, h.nN, h.eB, h.eL, h.eN, h.enter, h.small, fun w' hw => h.beg w' (hb.trans (hw.mono hb.size)), fun w' s hw => h.look w' s (hb.trans (hw.mono hb.size)), fun w' s hw hs => (h.next w' s (hb.trans (hw.mono hb.size)) hs).mono fun e w'' ⟨h1, f, h2, lb, h3, h4⟩ => ⟨h1, f, h2, lb, h3, fun n n₀ w3 hn => h4 n n₀ w3 (Nat.le_trans hb.size hn)⟩⟩

/-- Exploring: a move; a row of moves, of which c have been counted before; the states from the i-th on. -/
def stepA (most : Nat) (st : List ByteArray) (a : PMove) : Option (List ByteArray × PArc) :=
  if a.bad = 0 then
    if a.dst ∈ st then some (st, a.goes ((st.idxOf a.dst : Int)))
    else if st.length = most then none else some (st ++ [a.dst], a.goes ((st.length : Int)))
  else some (st, a.goes 0)
def stepAs (most : Nat) : Nat → List ByteArray → List PMove → Option (List ByteArray × List PArc)
  | _, st, [] => some (st, [])
  | c, st, a :: l => match stepA most st a with
    | none => none
    | some (st1, b) => if 262144 < c + 1 then none else match stepAs most (c + 1) st1 l with
      | none => none
      | some (st2, bs) => some (st2, b :: bs)
def exF (S : Sys) (most : Nat) : Nat → Nat → Nat → List ByteArray → Option (List ByteArray × PNet)
  | 0, _, _, _ => none
  | fu + 1, i, c, st => match st[i]? with
    | none => some (st, [])
    | some s => match stepAs most c st (S.next s) with
      | none => none
      | some (st1, bs) => match exF S most fu (i + 1) (c + (S.next s).length) st1 with
        | none => none
        | some (st2, out) => some (st2, { S.look s with arcs := bs } :: out)
theorem stepA_old {most : Nat} {st : List ByteArray} {a : PMove} (hb : a.bad = 0) (h : a.dst ∈ st) : stepA most st a = some (st, a.goes (st.idxOf a.dst : Int)) := by
  unfold stepA
  rw [if_pos hb, if_pos h]
theorem stepA_new {most : Nat} {st : List ByteArray} {a : PMove} (hb : a.bad = 0) (h : ¬ a.dst ∈ st) (hm : ¬ st.length = most) : stepA most st a = some (st ++ [a.dst], a.goes (st.length : Int)) := by
  unfold stepA
  rw [if_pos hb, if_neg h, if_neg hm]
theorem stepA_bad {most : Nat} {st : List ByteArray} {a : PMove} (hb : ¬ a.bad = 0) : stepA most st a = some (st, a.goes 0) := by
  unfold stepA
  rw [if_neg hb]
theorem stepAs_snoc (most : Nat) : ∀ (l : List PMove) (a : PMove) (c : Nat) (st : List ByteArray), stepAs most c st (l ++ [a]) = (match stepAs most c st l with
    | none => none
    | some (st1, bs) => match stepA most st1 a with
      | none => none
      | some (st2, b) => if 262144 < c + l.length + 1 then none else some (st2, bs ++ [b]))
  | [], a, c, st => by
    simp only [List.nil_append, stepAs]
    cases stepA most st a with
    | none => rfl
    | some p => simp only [List.length_nil, Nat.add_zero]
  | d :: l, a, c, st => by
    simp only [List.cons_append, stepAs]
    cases stepA most st d with
    | none => rfl
    | some p =>
      simp only
      by_cases hc : 262144 < c + 1
      · rw [if_pos hc, if_pos hc]
      · rw [if_neg hc, if_neg hc, stepAs_snoc most l a (c + 1) p.1]
        cases stepAs most (c + 1) p.1 l with
        | none => rfl
        | some q =>
          simp only
          cases stepA most q.1 a with
          | none => rfl
          | some r =>
            simp only
            rw [show c + 1 + l.length + 1 = c + (d :: l).length + 1 by rw [List.length_cons]; omega]
            by_cases h2 : 262144 < c + (d :: l).length + 1
            · rw [if_pos h2, if_pos h2]
            · rw [if_neg h2, if_neg h2]; rfl
theorem stepAs_app_none (most : Nat) : ∀ (l m : List PMove) (c : Nat) (st : List ByteArray), stepAs most c st l = none → stepAs most c st (l ++ m) = none
  | [], m, c, st, h => by rw [stepAs] at h; cases h
  | d :: l, m, c, st, h => by
    rw [stepAs] at h
    rw [List.cons_append, stepAs]
    split at h
    · rename_i e; rfl
    · rename_i st1 b e
      by_cases hc : 262144 < c + 1
      · rw [if_pos hc]
      · rw [if_neg hc] at h
        rw [if_neg hc]
        split at h
        · rename_i e2; rw [stepAs_app_none most l m (c + 1) st1 e2]
        · cases h
/-- The states that have been met. -/
structure Met (most : Nat) (st : List ByteArray) : Prop where
  nodup : st.Nodup
  size : ∀ x ∈ st, x.size ≤ 1048576
  len : st.length ≤ most
theorem stepA_met {most : Nat} {st st1 : List ByteArray} {a : PMove} {b : PArc} (h : Met most st) (ha : a.dst.size ≤ 1048576) (hs : stepA most st a = some (st1, b)) : Met most st1 ∧ st <+: st1 := by
  unfold stepA at hs
  split at hs
  · split at hs
    · injection hs with hs; injection hs with hs _; subst hs; exact ⟨h, List.prefix_refl _⟩
    · rename_i hin
      split at hs
      · cases hs
      · rename_i hl
        injection hs with hs; injection hs with hs _; subst hs
        refine ⟨⟨?_, ?_, ?_⟩, List.prefix_append _ _⟩
        · rw [List.nodup_append]
          refine ⟨h.nodup, by simp, fun x hx y hy e => ?_⟩
          rw [List.mem_singleton] at hy
          exact hin (by rw [← hy, ← e]; exact hx)
        · intro x hx
          rcases List.mem_append.1 hx with hx | hx
          · exact h.size x hx
          · rw [List.mem_singleton] at hx; rw [hx]; exact ha
        · have := h.len
          rw [List.length_append, List.length_singleton]
          omega
  · injection hs with hs; injection hs with hs _; subst hs; exact ⟨h, List.prefix_refl _⟩
theorem stepAs_met {most : Nat} : ∀ {l : List PMove} {c : Nat} {st st1 : List ByteArray} {bs : List PArc}, Met most st → (∀ a ∈ l, a.dst.size ≤ 1048576) → stepAs most c st l = some (st1, bs) → Met most st1 ∧ st <+: st1 ∧ bs.length = l.length ∧ (c ≤ 262144 → c + l.length ≤ 262144)
  | [], c, st, st1, bs, h, ha, hs => by
    rw [stepAs] at hs; injection hs with hs; injection hs with hs hs'; subst hs; subst hs'; exact ⟨h, List.prefix_refl _, rfl, fun h => h⟩
  | a :: l, c, st, st1, bs, h, ha, hs => by
    rw [stepAs] at hs
    split at hs
    · cases hs
    · rename_i st' b e1
      by_cases hc : 262144 < c + 1
      · rw [if_pos hc] at hs; cases hs
      · rw [if_neg hc] at hs
        split at hs
        · cases hs
        · rename_i st2 bs2 e2
          injection hs with hs; injection hs with hs hs'; subst hs; subst hs'
          obtain ⟨h1, h2⟩ := stepA_met h (ha a (by simp)) e1
          obtain ⟨h3, h4, h5, h6⟩ := stepAs_met h1 (fun x hx => ha x (by simp [hx])) e2
          exact ⟨h3, h2.trans h4, by simp [h5], fun _ => by have := h6 (by omega); rw [List.length_cons]; omega⟩
theorem bytes_inj {s t : ByteArray} (h : s.data.toList = t.data.toList) : s = t := by
  cases s; cases t
  congr
  exact Array.toList_inj.1 h
/-- The map, plain: off more than the number is kept for each state that has one. -/
structure NumD (off : Nat) (D : DataW Unit) (st : List ByteArray) : Prop where
  isMap : IsMap D
  has : ∀ m : ByteArray, Maps.has D (.string m.data.toList) = decide (m ∈ st)
  at_ : ∀ m : ByteArray, m ∈ st → ∀ z, D.atKey (.string m.data.toList) z = .lit (.int .i64 ((st.idxOf m + off : Nat) : Int))
theorem NumD.nil (off : Nat) : NumD off (.map []) [] := ⟨isMap_empty, fun m => by simp [Maps.has], fun m h => by cases h⟩
theorem isKey_str (m : ByteArray) : WideAt.IsKeyLit (.string m.data.toList) := trivial
theorem NumD.put {off : Nat} {D : DataW Unit} {st : List ByteArray} (h : NumD off D st) {m : ByteArray} (hn : m ∉ st) : NumD off (D.put (.string m.data.toList) (.lit (.int .i64 ((st.length + off : Nat) : Int)))) (st ++ [m]) := by
  refine ⟨h.isMap.put _ _, fun k => ?_, fun k hin z => ?_⟩
  · by_cases e : k = m
    · subst e
      rw [has_put_same h.isMap (isKey_str k)]
      simp
    · rw [has_put_other (fun he => e (by injection he with he; exact bytes_inj he)), h.has k]
      simp [e]
  · by_cases e : k = m
    · subst e
      rw [atKey_put_same h.isMap (isKey_str k), List.idxOf_append, if_neg hn]
      simp
    · have hks : k ∈ st := by
        rcases List.mem_append.1 hin with h1 | h1
        · exact h1
        · rw [List.mem_singleton] at h1; exact absurd h1 e
      rw [atKey_put_other (fun he => e (by injection he with he; exact bytes_inj he)), h.at_ k hks, List.idxOf_append, if_pos hks]
/-- The map in memory. -/
def NumV (off : Nat) (w : World) (b n : Nat) (st : List ByteArray) : Prop := ∃ D : DataW Unit, w.ownsMap Try.prog 9 (plainElem Try.prog 3) b n D ∧ NumD off D st
theorem key_str (m : ByteArray) (h : m.size ≤ 1048576) : keyOf Try.prog 9 (.string m) = some (.string m.data.toList) := by
  have h2 : m.size ≤ maxLen := by unfold maxLen; omega
  unfold keyOf mapKey
  rw [Try.underlying9]
  simp only
  rw [if_pos h2]
section
variable {off : Nat}
theorem NumV.alloc {w : World} {b n : Nat} {st : List ByteArray} (h : NumV off w b n st) (o : Obj) : NumV off (w.alloc o) b n st := by
  obtain ⟨D, h1, h2⟩ := h
  exact ⟨D, h1.alloc o, h2⟩
theorem NumV.of_eq {w w' : World} {b n : Nat} {st : List ByteArray} (h : NumV off w b n st) (he : w'.heap[b]? = w.heap[b]?) : NumV off w' b n st := by
  obtain ⟨D, ⟨es, clock, hb, F, hs, hD⟩, h2⟩ := h
  exact ⟨D, ⟨es, clock, he.trans hb, F, hs, hD⟩, h2⟩
theorem NumV.lt {w : World} {b n : Nat} {st : List ByteArray} (h : NumV off w b n st) : b < w.heap.size := by
  obtain ⟨D, h1, _⟩ := h
  exact h1.lt
theorem NumV.ne {w : World} {b n g : Nat} {st : List ByteArray} {t : TypeId} {cs : List Value} (h : NumV off w b n st) (hg : Holds w g t cs) : b ≠ g := by
  obtain ⟨D, ⟨es, clock, hb, _⟩, _⟩ := h
  rintro rfl
  unfold Holds at hg
  rw [hb] at hg
  cases hg
end
section
variable {off : Nat} {F : Fence} {n : Nat} {ops : Array Oper} {rest : List Oper} {o : Oper} {a : Act} {Q : Exit → Act → World → Prop} {w : World}
end
end Go.Proofs.Ytcopoaaofjeklaa.G
end
