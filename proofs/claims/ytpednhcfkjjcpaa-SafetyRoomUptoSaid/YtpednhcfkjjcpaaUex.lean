/- Exploring a system finds all that is reached, each once, and its moves; plain. -/
import Derived.Test.YtpednhcfkjjcpaaUpl
namespace Go.Proofs.Ytpednhcfkjjcpaa.G
open Go.RowKit
set_option linter.unusedVariables false
set_option linter.unusedSimpArgs false

/-- A move as an arc, its end numbered. -/
def arcOf (st : List ByteArray) (m : PMove) : PArc := m.goes (if m.bad = 0 then (st.idxOf m.dst : Int) else 0)
theorem idxOf_app {s : ByteArray} : ∀ {l : List ByteArray} (t : List ByteArray), s ∈ l → (l ++ t).idxOf s = l.idxOf s
  | [], _, h => by cases h
  | a :: l, t, h => by
    rw [List.cons_append, List.idxOf_cons, List.idxOf_cons]
    by_cases e : a == s
    · rw [e]; rfl
    · rw [Bool.not_eq_true] at e
      rw [e]
      have : s ∈ l := by
        rcases List.mem_cons.1 h with h | h
        · rw [h] at e; simp at e
        · exact h
      simp only [cond_false, idxOf_app t this]
theorem idxOf_new {s : ByteArray} : ∀ {l : List ByteArray}, s ∉ l → (l ++ [s]).idxOf s = l.length
  | [], _ => by simp
  | a :: l, h => by
    have h1 : s ≠ a := fun e => h (by rw [e]; exact List.mem_cons_self)
    have h2 : s ∉ l := fun e => h (List.mem_cons_of_mem _ e)
    have e : (a == s) = false := by
      rw [Bool.eq_false_iff]
      intro h3
      exact h1 (eq_of_beq h3).symm
    rw [List.cons_append, List.idxOf_cons, e, List.length_cons]
    simp only [cond_false, idxOf_new h2]
theorem idxOf_pre {st st2 : List ByteArray} (h : st <+: st2) {s : ByteArray} (hs : s ∈ st) : st2.idxOf s = st.idxOf s := by
  obtain ⟨t, rfl⟩ := h
  exact idxOf_app t hs
theorem arcOf_pre {st st2 : List ByteArray} (h : st <+: st2) {m : PMove} (hm : m.bad = 0 → m.dst ∈ st) : arcOf st2 m = arcOf st m := by
  unfold arcOf
  by_cases hb : m.bad = 0
  · rw [if_pos hb, if_pos hb, idxOf_pre h (hm hb)]
  · rw [if_neg hb, if_neg hb]
theorem stepA_all {most : Nat} {st st1 : List ByteArray} {a : PMove} {b : PArc} (h : stepA most st a = some (st1, b)) (hn : st.Nodup) :
    st <+: st1 ∧ st1.Nodup ∧ (a.bad = 0 → a.dst ∈ st1) ∧ (∀ s ∈ st1, s ∈ st ∨ (a.bad = 0 ∧ a.dst = s)) ∧ b = arcOf st1 a := by
  unfold stepA at h
  by_cases hb : a.bad = 0
  · rw [if_pos hb] at h
    by_cases hin : a.dst ∈ st
    · rw [if_pos hin] at h
      injection h with h
      injection h with h1 h2
      subst h1 h2
      exact ⟨List.prefix_refl _, hn, fun _ => hin, fun s hs => .inl hs, by unfold arcOf; rw [if_pos hb]⟩
    · rw [if_neg hin] at h
      split at h
      · cases h
      · injection h with h
        injection h with h1 h2
        subst h1 h2
        refine ⟨List.prefix_append _ _, ?_, fun _ => List.mem_append_right _ List.mem_cons_self, fun s hs => ?_, ?_⟩
        · rw [List.nodup_append]
          refine ⟨hn, by simp, fun x hx y hy => ?_⟩
          rw [List.mem_singleton] at hy
          subst hy
          rintro rfl
          exact hin hx
        · rcases List.mem_append.1 hs with hs | hs
          · exact .inl hs
          · rw [List.mem_singleton] at hs
            exact .inr ⟨hb, hs.symm⟩
        · unfold arcOf
          rw [if_pos hb, idxOf_new hin]
  · rw [if_neg hb] at h
    injection h with h
    injection h with h1 h2
    subst h1 h2
    exact ⟨List.prefix_refl _, hn, fun e => absurd e hb, fun s hs => .inl hs, by unfold arcOf; rw [if_neg hb]⟩
theorem stepAs_all {most : Nat} : ∀ {l : List PMove} {c : Nat} {st st1 : List ByteArray} {bs : List PArc}, stepAs most c st l = some (st1, bs) → st.Nodup → c ≤ 262144 →
    st <+: st1 ∧ st1.Nodup ∧ (∀ a ∈ l, a.bad = 0 → a.dst ∈ st1) ∧ (∀ s ∈ st1, s ∈ st ∨ ∃ a ∈ l, a.bad = 0 ∧ a.dst = s) ∧ bs = l.map (arcOf st1) ∧ c + l.length ≤ 262144
  | [], c, st, st1, bs, h, hn, hc => by
    rw [stepAs] at h
    injection h with h
    injection h with h1 h2
    subst h1 h2
    exact ⟨List.prefix_refl _, hn, fun a ha => (by cases ha), fun s hs => .inl hs, rfl, by simpa using hc⟩
  | a :: l, c, st, st1, bs, h, hn, hc => by
    rw [stepAs] at h
    cases h1 : stepA most st a with
    | none => rw [h1] at h; cases h
    | some p =>
      obtain ⟨sa, b⟩ := p
      rw [h1] at h
      dsimp only at h
      by_cases hcc : 262144 < c + 1
      · rw [if_pos hcc] at h; cases h
      · rw [if_neg hcc] at h
        cases h2 : stepAs most (c + 1) sa l with
        | none => rw [h2] at h; cases h
        | some p2 =>
          obtain ⟨sb, bs2⟩ := p2
          rw [h2] at h
          injection h with h
          injection h with e1 e2
          subst e1 e2
          obtain ⟨q1, q2, q3, q4, q5⟩ := stepA_all h1 hn
          obtain ⟨r1, r2, r3, r4, r5, r6⟩ := stepAs_all h2 q2 (by omega)
          refine ⟨q1.trans r1, r2, fun x hx hb => ?_, fun s hs => ?_, ?_, ?_⟩
          · rcases List.mem_cons.1 hx with rfl | hx
            · exact r1.subset (q3 hb)
            · exact r3 x hx hb
          · rcases r4 s hs with hs | ⟨x, hx, h3⟩
            · rcases q4 s hs with hs | ⟨h3, h4⟩
              · exact .inl hs
              · exact .inr ⟨a, List.mem_cons_self, h3, h4⟩
            · exact .inr ⟨x, List.mem_cons_of_mem _ hx, h3⟩
          · rw [List.map_cons, q5, r5, arcOf_pre r1 q3]
          · rw [List.length_cons]; omega
/-- What is found, from the i-th on. -/
theorem exF_all {S : Sys} {most : Nat} : ∀ (fu i c : Nat) {st st2 : List ByteArray} {g : PNet}, exF S most fu i c st = some (st2, g) → st.Nodup → i ≤ st.length → c ≤ 262144 → (∀ s ∈ st, Rch S s) →
    st <+: st2 ∧ st2.Nodup ∧ (∀ s ∈ st2, Rch S s) ∧ i + g.length = st2.length ∧ ∀ (k : Nat) (s : ByteArray), i ≤ k → st2[k]? = some s → g[k - i]? = some { S.look s with arcs := (S.next s).map (arcOf st2) } ∧ (∀ m ∈ S.next s, m.bad = 0 → m.dst ∈ st2) ∧ (S.next s).length ≤ 262144
  | 0, i, c, st, st2, g, h, hn, hi, hc, hr => by rw [exF] at h; cases h
  | fu + 1, i, c, st, st2, g, h, hn, hi, hc, hr => by
    rw [exF] at h
    cases hs : st[i]? with
    | none =>
      rw [hs] at h
      injection h with h
      injection h with h1 h2
      subst h1 h2
      have := List.getElem?_eq_none_iff.1 hs
      refine ⟨List.prefix_refl _, hn, hr, by simp; omega, fun k s hk hks => ?_⟩
      have := (List.getElem?_eq_some_iff.1 hks).1
      omega
    | some s =>
      rw [hs] at h
      dsimp only at h
      have hil := (List.getElem?_eq_some_iff.1 hs).1
      cases h1 : stepAs most c st (S.next s) with
      | none => rw [h1] at h; cases h
      | some p =>
        obtain ⟨sa, bs⟩ := p
        rw [h1] at h
        dsimp only at h
        obtain ⟨r1, r2, r3, r4, r5, r6⟩ := stepAs_all h1 hn hc
        cases h2 : exF S most fu (i + 1) (c + (S.next s).length) sa with
        | none => rw [h2] at h; cases h
        | some p2 =>
          obtain ⟨sb, out⟩ := p2
          rw [h2] at h
          injection h with h
          injection h with e1 e2
          subst e1 e2
          have hsr := hr s (List.mem_of_getElem? hs)
          have hla := r1.length_le
          obtain ⟨q1, q2, q3, q4, q5⟩ := exF_all fu (i + 1) (c + (S.next s).length) h2 r2 (by omega) (by omega) (fun x hx => by
            rcases r4 x hx with hx | ⟨a, ha, hb, rfl⟩
            · exact hr x hx
            · exact .step hsr ha hb)
          refine ⟨r1.trans q1, q2, q3, by rw [List.length_cons]; omega, fun k x hk hx => ?_⟩
          by_cases e : k = i
          · subst e
            have hx2 : sb[k]? = some s := by
              obtain ⟨t, rfl⟩ := r1.trans q1
              exact get_pre hs
            rw [hx] at hx2
            injection hx2 with hx2
            subst hx2
            refine ⟨?_, fun m hm hb => q1.subset (r3 m hm hb), by omega⟩
            rw [Nat.sub_self]
            show some _ = some _
            rw [r5]
            congr 2
            exact List.map_congr_left fun m hm => (arcOf_pre q1 (r3 m hm)).symm
          · obtain ⟨z1, z2, z3⟩ := q5 k x (by omega) hx
            refine ⟨?_, z2, z3⟩
            rw [show k - i = (k - (i + 1)) + 1 by omega, List.getElem?_cons_succ]
            exact z1
where
  get_pre {A : Type} {l t : List A} {n : Nat} {b : A} (h : l[n]? = some b) : (l ++ t)[n]? = some b := by
    rw [List.getElem?_append_left (List.getElem?_eq_some_iff.1 h).1, h]
/-- All that is reached in a system, numbered, and its graph. -/
structure Expl (S : Sys) (st : List ByteArray) (g : PNet) : Prop where
  nd : st.Nodup
  rch : ∀ s, s ∈ st ↔ Rch S s
  len : g.length = st.length
  node : ∀ (k : Nat) (s : ByteArray), st[k]? = some s → g[k]? = some { S.look s with arcs := (S.next s).map (arcOf st) }
  next : ∀ s ∈ st, ∀ m ∈ S.next s, m.bad = 0 → m.dst ∈ st
  few : ∀ s ∈ st, (S.next s).length ≤ 262144
  beg : st.head? = some S.beg
theorem expl_of {S : Sys} {most fu : Nat} {st : List ByteArray} {g : PNet} (h : exF S most fu 0 0 [S.beg] = some (st, g)) : Expl S st g := by
  obtain ⟨h1, h2, h3, h4, h5⟩ := exF_all fu 0 0 h (by simp) (Nat.zero_le _) (Nat.zero_le _) (fun s hs => by rw [List.mem_singleton] at hs; subst hs; exact .beg)
  have hnx : ∀ s ∈ st, ∀ m ∈ S.next s, m.bad = 0 → m.dst ∈ st := fun s hs => by
    obtain ⟨k, hk⟩ := List.getElem?_of_mem hs
    exact (h5 k s (Nat.zero_le _) hk).2.1
  have hall : ∀ s, Rch S s → s ∈ st := fun s hs => by
    induction hs with
    | beg => exact h1.subset List.mem_cons_self
    | step _ hm hb ih => exact hnx _ ih _ hm hb
  refine ⟨h2, fun s => ⟨h3 s, hall s⟩, by omega, fun k s hk => (h5 k s (Nat.zero_le _) hk).1, hnx, fun s hs => ?_, ?_⟩
  · obtain ⟨k, hk⟩ := List.getElem?_of_mem hs
    exact (h5 k s (Nat.zero_le _) hk).2.2
  · obtain ⟨t, rfl⟩ := h1
    rfl
/-- A row without doubles within another one. -/
theorem within {A : Type} [BEq A] [LawfulBEq A] : ∀ (L : List A) {st : List A}, L.Nodup → (∀ s ∈ L, s ∈ st) → ∃ R, st.Perm (L ++ R)
  | [], st, _, _ => ⟨st, List.Perm.refl _⟩
  | a :: L, st, hn, h => by
    rw [List.nodup_cons] at hn
    have ha := h a List.mem_cons_self
    obtain ⟨R, hR⟩ := within L (st := st.erase a) hn.2 (fun s hs => by
      refine (List.mem_erase_of_ne ?_).2 (h s (List.mem_cons_of_mem _ hs))
      rintro rfl
      exact hn.1 hs)
    exact ⟨R, (List.perm_cons_erase ha).trans (hR.cons a)⟩
theorem within_len {L st : List ByteArray} (hn : L.Nodup) (h : ∀ s ∈ L, s ∈ st) : L.length ≤ st.length ∧ totB L ≤ totB st := by
  obtain ⟨R, hR⟩ := within L hn h
  have h1 := hR.length_eq
  have h2 : (st.map ByteArray.size).sum = ((L ++ R).map ByteArray.size).sum := (hR.map _).sum_nat
  rw [List.length_append] at h1
  rw [List.map_append, List.sum_append] at h2
  unfold totB
  omega
theorem within_same {L st : List ByteArray} (hn : L.Nodup) (h : ∀ s ∈ L, s ∈ st) (hs : st.Nodup) (h2 : ∀ s ∈ st, s ∈ L) : st.Perm L := by
  obtain ⟨R, hR⟩ := within L hn h
  cases R with
  | nil => rw [List.append_nil] at hR; exact hR
  | cons a R =>
    have h3 := hR.nodup_iff.1 hs
    rw [List.nodup_append] at h3
    exact absurd rfl (h3.2.2 a (h2 a (hR.symm.subset (List.mem_append_right _ List.mem_cons_self))) a List.mem_cons_self)
end Go.Proofs.Ytpednhcfkjjcpaa.G
