/- Trn, Agn, Tur, Cpy, Shp, Spl, Owm, joined. -/
import Derived.Test.YtcedenoicmpjmaaMov
import Derived.Test.YtcedenoicmpjmaaKnown
import Derived.Laws.CopyRow
section
/- Turned arcs, plain: what is reached is the same. -/
namespace Go.Proofs.Ytcedenoicmpjmaa
open Go.RowKit
set_option linter.unusedVariables false
set_option linter.unusedSimpArgs false

def revX (x : PNode) : PNode := { x with arcs := x.arcs.reverse }
def lastN : PNode := ⟨[], 77, false, false, false⟩
def turnN (N : PNet) : PNet := N.map revX ++ [lastN]
theorem stepA_mem {most : Nat} {st st1 : List Nat} {a b : PArc} (h : stepA most st a = some (st1, b)) : st <+: st1 ∧ (a.bad = 0 → a.to.toNat ∈ st1) ∧ ∀ s ∈ st1, s ∈ st ∨ (a.bad = 0 ∧ s = a.to.toNat) := by
  unfold stepA at h
  split at h
  · rename_i hb
    split at h
    · rename_i hin
      injection h with h; injection h with h _; subst h
      exact ⟨List.prefix_refl _, fun _ => hin, fun s hs => .inl hs⟩
    · split at h
      · cases h
      · injection h with h; injection h with h _; subst h
        exact ⟨List.prefix_append _ _, fun _ => by simp, fun s hs => (List.mem_append.1 hs).imp id fun h => ⟨hb, by simpa using h⟩⟩
  · rename_i hb
    injection h with h; injection h with h _; subst h
    exact ⟨List.prefix_refl _, fun h0 => absurd h0 hb, fun s hs => .inl hs⟩
theorem stepAs_mem {most : Nat} : ∀ {l : List PArc} {st st1 : List Nat} {bs : List PArc}, stepAs most st l = some (st1, bs) → st <+: st1 ∧ (∀ a ∈ l, a.bad = 0 → a.to.toNat ∈ st1) ∧ (∀ s ∈ st1, s ∈ st ∨ ∃ a ∈ l, a.bad = 0 ∧ s = a.to.toNat) ∧ bs.length = l.length
  | [], st, st1, bs, h => by
    rw [stepAs] at h; injection h with h; injection h with h h'; subst h; subst h'
    exact ⟨List.prefix_refl _, (fun a ha => by cases ha), fun s hs => .inl hs, rfl⟩
  | a :: l, st, st1, bs, h => by
    rw [stepAs] at h
    split at h
    · cases h
    · rename_i st' b e1
      split at h
      · cases h
      · rename_i st2 bs2 e2
        injection h with h; injection h with h h'; subst h; subst h'
        obtain ⟨p1, p2, p3⟩ := stepA_mem e1
        obtain ⟨q1, q2, q3, q4⟩ := stepAs_mem e2
        refine ⟨p1.trans q1, fun c hc hb => ?_, fun s hs => ?_, by simp [q4]⟩
        · rcases List.mem_cons.1 hc with rfl | hc
          · exact q1.subset (p2 hb)
          · exact q2 c hc hb
        · rcases q3 s hs with h1 | ⟨c, hc, hb, he⟩
          · rcases p3 s h1 with h2 | ⟨hb, he⟩
            · exact .inl h2
            · exact .inr ⟨a, by simp, hb, he⟩
          · exact .inr ⟨c, by simp [hc], hb, he⟩
/-- What is reached from what has been met: closed; nothing beyond; and what is told of each. -/
theorem exF_reach {N : PNet} {most : Nat} : ∀ {fu i : Nat} {st st1 : List Nat} {out : PNet}, exF N most fu i st = some (st1, out) → i ≤ st.length →
    st <+: st1 ∧ (∀ (j : Nat) (hj : j < st1.length), i ≤ j → ∃ x, N[st1[j]]? = some x ∧ (∀ a ∈ x.arcs, a.bad = 0 → a.to.toNat ∈ st1) ∧ ∃ y, out[j - i]? = some y ∧ y.props = x.props ∧ y.arcs.length = x.arcs.length) ∧
    ∀ Q : Nat → Prop, (∀ s ∈ st, Q s) → (∀ s x, Q s → N[s]? = some x → ∀ a ∈ x.arcs, a.bad = 0 → Q a.to.toNat) → ∀ s ∈ st1, Q s
  | 0, i, st, st1, out, h, hi => by rw [exF] at h; cases h
  | fu + 1, i, st, st1, out, h, hi => by
    rw [exF] at h
    split at h
    · rename_i h0
      injection h with h; injection h with h h'; subst h; subst h'
      have := List.getElem?_eq_none_iff.1 h0
      exact ⟨List.prefix_refl _, fun j hj hij => by omega, fun Q hQ _ => hQ⟩
    · rename_i s h0
      have hil := (List.getElem?_eq_some_iff.1 h0).1
      have hs0 := (List.getElem?_eq_some_iff.1 h0).2
      split at h
      · cases h
      · rename_i x hx
        split at h
        · cases h
        · rename_i st' bs h1
          split at h
          · cases h
          · rename_i st2 out2 h2
            injection h with h; injection h with h h'; subst h; subst h'
            obtain ⟨p1, p2, p3, p4⟩ := stepAs_mem h1
            have hl := p1.length_le
            obtain ⟨q1, q2, q3⟩ := exF_reach h2 (by omega)
            refine ⟨p1.trans q1, fun j hj hij => ?_, fun Q hQ hc => ?_⟩
            · by_cases e : j = i
              · subst e
                have hp := p1.trans q1
                have he : st2[j] = s := by rw [← hs0]; exact (hp.getElem hil).symm
                refine ⟨x, by rw [he]; exact hx, fun a ha hb => q1.subset (p2 a ha hb), { x with arcs := bs }, by rw [Nat.sub_self]; rfl, rfl, p4⟩
              · obtain ⟨y, h3, h4, z, h5, h6⟩ := q2 j hj (by omega)
                refine ⟨y, h3, h4, z, ?_, h6⟩
                rw [show j - i = (j - (i + 1)) + 1 by omega, List.getElem?_cons_succ]
                exact h5
            · refine q3 Q (fun t ht => ?_) hc
              rcases p3 t ht with h3 | ⟨a, ha, hb, rfl⟩
              · exact hQ t h3
              · exact hc s x (hQ s (by rw [← hs0]; exact List.getElem_mem _)) hx a ha hb
theorem turn_len (N : PNet) : (turnN N).length = N.length + 1 := by simp [turnN]
theorem turn_at {N : PNet} {s : Nat} (h : s < N.length) : (turnN N)[s]? = some (revX N[s]) := by
  unfold turnN
  rw [List.getElem?_append_left (by simpa using h), List.getElem?_map, List.getElem?_eq_getElem h]
  rfl
theorem turn_back {N : PNet} {s : Nat} {x : PNode} (h : (turnN N)[s]? = some x) (hs : s < N.length) : ∃ y, N[s]? = some y ∧ x = revX y := by
  rw [turn_at hs] at h
  injection h with h
  exact ⟨_, List.getElem?_eq_getElem hs, h.symm⟩
theorem total_app : ∀ (a b : PNet), total (a ++ b) = total a + total b
  | [], b => by simp [total]
  | x :: a, b => by
    have := total_app a b
    simp only [total, List.cons_append, List.map_cons, List.sum_cons] at this ⊢
    omega
theorem total_rev : ∀ (a : PNet), total (a.map revX) = total a
  | [] => rfl
  | x :: a => by
    have := total_rev a
    simp only [total, List.map_cons, List.sum_cons] at this ⊢
    rw [this]
    simp [revX]
theorem turn_chk {N : PNet} (hN : chk N = true) (hl : N.length < 20000) : chk (turnN N) = true := by
  unfold chk at hN ⊢
  simp only [Bool.and_eq_true, decide_eq_true_eq] at hN ⊢
  obtain ⟨⟨⟨n1, n2⟩, n3⟩, n4⟩ := hN
  rw [turn_len]
  refine ⟨⟨⟨by omega, by omega⟩, List.all_eq_true.2 fun x hx => List.all_eq_true.2 fun a ha => ?_⟩, ?_⟩
  · unfold turnN at hx
    rcases List.mem_append.1 hx with hx | hx
    · obtain ⟨y, hy, rfl⟩ := List.mem_map.1 hx
      have h1 := List.all_eq_true.1 (List.all_eq_true.1 n3 y hy) a (by simpa [revX] using ha)
      exact chkArc_mono h1 (by omega)
    · rw [List.mem_singleton] at hx
      subst hx
      cases ha
  · unfold turnN
    rw [total_app, total_rev]
    simp only [total, List.map_cons, List.map_nil, List.sum_cons, List.sum_nil, lastN, List.length_nil] at n4 ⊢
    omega
theorem ex_ok {N : PNet} (hN : chk N = true) : ∃ st g, exF N 20000 20001 0 [0] = some (st, g) ∧ Met N.length st ∧ g.length = st.length := by
  obtain ⟨st, g, h1, h2, h3, h4, h5, h6⟩ := again hN
  exact ⟨st, g, h1, h4, h2.symm⟩
theorem nodup_sub : ∀ (a b : List Nat), a.Nodup → (∀ x ∈ a, x ∈ b) → a.length ≤ b.length
  | [], b, _, _ => Nat.zero_le _
  | x :: a, b, hd, h => by
    obtain ⟨h1, h2⟩ := List.nodup_cons.1 hd
    have hx := h x (by simp)
    have h3 := nodup_sub a (b.erase x) h2 fun y hy => (List.mem_erase_of_ne (by rintro rfl; exact h1 hy)).2 (h y (by simp [hy]))
    rw [List.length_erase_of_mem hx] at h3
    have := List.length_pos_of_mem hx
    simp only [List.length_cons]
    omega
/-- The law of turned arcs. -/
theorem turned {N : PNet} (hN : chk N = true) (hl : N.length < 20000) : ∃ st g st' g', exF N 20000 20001 0 [0] = some (st, g) ∧ exF (turnN N) 20000 20001 0 [0] = some (st', g') ∧ 0 < st.length ∧ st'.length = st.length ∧ g.length = st.length ∧ g'.length = st.length ∧ (∀ s ∈ st, s ≤ 20000) ∧ (∀ s ∈ st', s ≤ 20000) ∧
    ∀ (j : Nat) (hj : j < st.length), ∃ m, m < st.length ∧ st'[m]? = some st[j] ∧ ∃ x y, g[j]? = some x ∧ g'[m]? = some y ∧ x.arcs.length = y.arcs.length ∧ x.props = y.props := by
  obtain ⟨st, g, h1, hm, hg⟩ := ex_ok hN
  obtain ⟨st', g', h1', hm', hg'⟩ := ex_ok (turn_chk hN hl)
  rw [turn_len] at hm'
  obtain ⟨a1, a2, a3⟩ := exF_reach h1 (by simp)
  obtain ⟨b1, b2, b3⟩ := exF_reach h1' (by simp)
  have h0 : ∀ s ∈ st, s ∈ st' := a3 (· ∈ st') (fun s hs => b1.subset hs) fun s x hs hx a ha hb => by
    obtain ⟨j, hj, rfl⟩ := List.getElem_of_mem hs
    obtain ⟨y, h3, h4, _⟩ := b2 j hj (by omega)
    have hlt := (List.getElem?_eq_some_iff.1 hx).1
    rw [turn_at hlt] at h3
    injection h3 with h3
    subst h3
    have hxe := (List.getElem?_eq_some_iff.1 hx).2
    exact h4 a (by simp only [revX, List.mem_reverse]; rw [hxe]; exact ha) hb
  have h0' : ∀ s ∈ st', s ∈ st := b3 (· ∈ st) (fun s hs => a1.subset hs) fun s x hs hx a ha hb => by
    obtain ⟨y, hy, rfl⟩ := turn_back hx (hm.lt s hs)
    obtain ⟨j, hj, rfl⟩ := List.getElem_of_mem hs
    obtain ⟨z, h3, h4, _⟩ := a2 j hj (by omega)
    rw [hy] at h3
    injection h3 with h3
    subst h3
    exact h4 a (by simpa [revX] using ha) hb
  have e1 : st.length ≤ st'.length := nodup_sub _ _ hm.nodup h0
  have e2 : st'.length ≤ st.length := nodup_sub _ _ hm'.nodup h0'
  have hN2 := hN
  unfold chk at hN2
  simp only [Bool.and_eq_true, decide_eq_true_eq] at hN2
  refine ⟨st, g, st', g', h1, h1', hm.pos, by omega, hg, by omega, fun s hs => by have := hm.lt s hs; omega, fun s hs => by have := hm'.lt s hs; omega, fun j hj => ?_⟩
  obtain ⟨m, hmm, he⟩ := List.getElem_of_mem (h0 _ (List.getElem_mem hj))
  obtain ⟨x, c1, _, y, c2, c3, c4⟩ := a2 j hj (by omega)
  obtain ⟨x', d1, _, y', d2, d3, d4⟩ := b2 m hmm (by omega)
  rw [he] at d1
  obtain ⟨z, hz, rfl⟩ := turn_back d1 (hm.lt _ (List.getElem_mem hj))
  rw [c1] at hz
  injection hz with hz
  subst hz
  rw [Nat.sub_zero] at c2 d2
  exact ⟨m, by omega, by rw [List.getElem?_eq_getElem hmm, he], y, y', c2, d2, by rw [c4, d4]; simp [revX], by rw [c3, d3]; rfl⟩
end Go.Proofs.Ytcedenoicmpjmaa
end
section
/- The walk of NetAgain: a graph that is explored may be, and explored again it is the same. -/
namespace Go.Proofs.Ytcedenoicmpjmaa
open Go.RowKit Go.Maps
set_option linter.unusedVariables false
set_option linter.unusedSimpArgs false

theorem stepA_goes {most : Nat} {st st1 : List Nat} {a b : PArc} (h : stepA most st a = some (st1, b)) : ∃ t, b = a.goes t := by
  unfold stepA at h
  split at h
  · split at h
    · injection h with h; injection h with _ h; exact ⟨_, h.symm⟩
    · split at h
      · cases h
      · injection h with h; injection h with _ h; exact ⟨_, h.symm⟩
  · injection h with h; injection h with _ h; exact ⟨_, h.symm⟩
theorem stepAs_goes {most : Nat} : ∀ {l : List PArc} {st st1 : List Nat} {bs : List PArc}, stepAs most st l = some (st1, bs) → ∀ b ∈ bs, ∃ a ∈ l, ∃ t, b = a.goes t
  | [], st, st1, bs, h, b, hb => by
    rw [stepAs] at h; injection h with h; injection h with _ h; subst h; cases hb
  | a :: l, st, st1, bs, h, b, hb => by
    rw [stepAs] at h
    split at h
    · cases h
    · rename_i st' b1 e1
      split at h
      · cases h
      · rename_i st2 bs2 e2
        injection h with h; injection h with _ h; subst h
        rcases List.mem_cons.1 hb with rfl | hb
        · obtain ⟨t, ht⟩ := stepA_goes e1
          exact ⟨a, by simp, t, ht⟩
        · obtain ⟨a', ha, t, ht⟩ := stepAs_goes e2 b hb
          exact ⟨a', by simp [ha], t, ht⟩
theorem exF_goes {N : PNet} {most : Nat} : ∀ {fu i : Nat} {st st1 : List Nat} {out : PNet}, exF N most fu i st = some (st1, out) → ∀ x ∈ out, ∀ b ∈ x.arcs, ∃ y ∈ N, ∃ a ∈ y.arcs, ∃ t, b = a.goes t
  | 0, i, st, st1, out, h => by rw [exF] at h; cases h
  | fu + 1, i, st, st1, out, h => by
    rw [exF] at h
    split at h
    · injection h with h; injection h with _ h; subst h
      intro x hx; cases hx
    · split at h
      · cases h
      · rename_i y hy
        split at h
        · cases h
        · rename_i st' bs h1
          split at h
          · cases h
          · rename_i st2 out2 h2
            injection h with h; injection h with _ h; subst h
            intro x hx b hb
            rcases List.mem_cons.1 hx with rfl | hx
            · obtain ⟨a, ha, t, ht⟩ := stepAs_goes h1 b hb
              exact ⟨y, List.mem_of_getElem? hy, a, ha, t, ht⟩
            · exact exF_goes h2 x hx b hb
theorem Small.mem {N : PNet} (h : Small N) {y : PNode} (hy : y ∈ N) {a : PArc} (ha : a ∈ y.arcs) : a.reads.length ≤ 2000000 ∧ a.writes.length ≤ 2000000 := by
  obtain ⟨i, hi, rfl⟩ := List.getElem_of_mem hy
  obtain ⟨j, hj, rfl⟩ := List.getElem_of_mem ha
  exact h.reads i hi j hj
theorem small_chk {g : PNet} (hc : chk g = true) (hr : ∀ x ∈ g, ∀ b ∈ x.arcs, b.reads.length ≤ 2000000 ∧ b.writes.length ≤ 2000000) : Small g := by
  unfold chk at hc
  simp only [Bool.and_eq_true, decide_eq_true_eq] at hc
  exact ⟨by omega, by omega, fun i hi j hj => hr _ (List.getElem_mem hi) _ (List.getElem_mem hj)⟩
set_option maxHeartbeats 4000000 in
set_option maxRecDepth 100000 in
theorem lawAgain {P : Nat → Prop} {w : World} {N : PNet} {v : Value} (hv : NetV P w v N) (hs : Small N) : Calls Try.prog 4 #[.agg #[v]] w (Yes w) := by
  obtain ⟨f, hr, hg⟩ := hv
  obtain ⟨a0, k0, rfl, _, _, _⟩ := hr.form
  obtain ⟨w0, hw0⟩ : ∃ W, W = w.alloc (.cells #[.slice a0 N.length k0] 24) := ⟨_, rfl⟩
  have hb0 : Below w.heap.size w w0 := by rw [hw0]; exact (Below.refl _ _).alloc (Nat.le_refl _) _
  have HB0 := Lib.hid hb0
  have HV0 := Lib.hid ((show NetV P w (.slice a0 N.length k0) N from ⟨f, hr, hg⟩).up (Keep.below hb0))
  have H1 : Hid (Holds w0 w.heap.size 24 [.slice a0 N.length k0]) := by rw [hw0]; exact Holds.new w 24 #[.slice a0 N.length k0]
  clear hr hg hb0
  go_enter Try.func4, Try.ntmps4
  go_wp2_with (fail)
  rw [← hw0]
  clear hw0
  generalize w.heap.size = b1 at H1 ⊢
  refine (ofFn HV0.out hs).mono ?_
  rintro e w2 ⟨hb2, h2⟩
  have HB2 : Hid (Below w.heap.size w w2) := HB0.out.trans (hb2.mono HB0.out.size)
  have H12 := Lib.hid (H1.out.belowAll hb2)
  by_cases hc : chk N = true
  · rw [if_pos hc] at h2
    obtain ⟨v2, rfl, hv2⟩ := h2
    obtain ⟨st, g, ex1, hlen, hle, hmet, hcg, ex2⟩ := again hc
    have hsg : Small g := small_chk hcg fun x hx b hb => by
      obtain ⟨y, hy, a, ha, t, rfl⟩ := exF_goes ex1 x hx b hb
      have h5 := hs.mem hy (a := a) ha
      exact h5
    have HSG := Lib.hid hsg
    have HCG := Lib.hid hcg
    have HPOS : Hid (1 ≤ g.length ∧ g.length ≤ 20000) := by
      have h3 := hcg
      unfold chk at h3
      simp only [Bool.and_eq_true, decide_eq_true_eq] at h3
      exact ⟨h3.1.1.1, h3.1.1.2⟩
    have HV2 := Lib.hid hv2
    have HE2 := Lib.hid ex2
    have HLE : Hid (g.length ≤ N.length) := by rw [← hlen]; exact hle
    have HLN := Lib.hid hlen
    have HEX := Lib.hid ex1
    clear hv2 hsg hcg ex1 ex2 hb2 hmet hle hlen HV0 H1 HB0
    go_wp2_with (fail)
    refine (exploreFn (most := 20000) HV2.out hc hs (by omega) (by omega)).mono ?_
    rintro e w3 ⟨hb3, h3⟩
    rw [HEX.out] at h3
    obtain ⟨vn, vs, rfl, hvn, hvs⟩ := h3
    rw [HLN.out] at hvs
    obtain ⟨fn3, hrn3, hgn3⟩ := hvn
    obtain ⟨a3, c3, rfl, _, _, _⟩ := hrn3.form
    obtain ⟨a4, c4, rfl, _, _, _⟩ := hvs.form
    have HVN := Lib.hid (show NetV (From w2.heap.size) w3 (.slice a3 g.length c3) g from ⟨fn3, hrn3, hgn3⟩)
    have HB3 : Hid (Below w.heap.size w w3) := HB2.out.trans (hb3.mono HB2.out.size)
    obtain ⟨w5, hw5⟩ : ∃ W, W = w3.alloc (.cells #[.slice a3 g.length c3] 24) := ⟨_, rfl⟩
    have hb5 : Below w3.heap.size w3 w5 := by rw [hw5]; exact (Below.refl _ _).alloc (Nat.le_refl _) _
    have HB5 := Lib.hid (HB3.out.trans (hb5.mono HB3.out.size))
    have HVG5 := Lib.hid (HVN.out.up (Keep.below hb5))
    have H55 : Hid (Holds w5 w3.heap.size 24 [.slice a3 g.length c3]) := by rw [hw5]; exact Holds.new w3 24 #[.slice a3 g.length c3]
    have h15 := ((H12.out.belowAll hb3).belowAll hb5).cell 0
    have h55 := H55.out.cell 0
    simp only [List.getElem?_cons_zero] at h15 h55
    have d1 : decide (N.length < g.length) = false := decide_eq_false (by have := HLE.out; omega)
    rw [hw5] at h15 h55
    rw [HLN.out] at HE2
    clear hrn3 hgn3 hvs hb3 HB2 HB3 H12 HVN HLN HEX HLE hb5
    go_wp2_with (fail)
    rw [← hw5]
    clear hw5 h15 h55
    generalize w3.heap.size = b5 at *
    refine (checkFn HVG5.out HSG.out).mono ?_
    rintro e w6 ⟨rfl, hb6⟩
    rw [show errC (chk g) = .int .i64 0 by rw [HCG.out]; rfl]
    have HB6 : Hid (Below w.heap.size w w6) := HB5.out.trans (hb6.mono HB5.out.size)
    have HVG6 := Lib.hid (HVG5.out.up (Keep.below hb6))
    have H56 := Lib.hid (H55.out.belowAll hb6)
    have h56 := H56.out.cell 0
    simp only [List.getElem?_cons_zero] at h56
    clear hb6 HB5 HVG5 H55
    go_wp2_with (fail)
    refine (ofFn HVG6.out HSG.out).mono ?_
    rintro e w7 ⟨hb7, h7⟩
    rw [if_pos HCG.out] at h7
    obtain ⟨v7, rfl, hv7⟩ := h7
    have HB7 : Hid (Below w.heap.size w w7) := HB6.out.trans (hb7.mono HB6.out.size)
    have HVG7 := Lib.hid (HVG6.out.up (Keep.below hb7))
    have H57 := Lib.hid (H56.out.belowAll hb7)
    have HV7 := Lib.hid hv7
    clear hb7 hv7 h56 H56 HVG6 HB6
    go_wp2_with (fail)
    refine (exploreFn (most := g.length) HV7.out HCG.out HSG.out HPOS.out.1 HPOS.out.2).mono ?_
    rintro e w8 ⟨hb8, h8⟩
    rw [HE2.out] at h8
    obtain ⟨vn, vs, rfl, hvn, hvs⟩ := h8
    rw [List.length_range] at hvs
    obtain ⟨fn8, hrn8, hgn8⟩ := hvn
    obtain ⟨a8, c8, rfl, _, _, _⟩ := hrn8.form
    obtain ⟨a9, c9, rfl, _, _, _⟩ := hvs.form
    have HVN := Lib.hid (show NetV (From w7.heap.size) w8 (.slice a8 g.length c8) g from ⟨fn8, hrn8, hgn8⟩)
    have HB8 : Hid (Below w.heap.size w w8) := HB7.out.trans (hb8.mono HB7.out.size)
    obtain ⟨w9, hw9⟩ : ∃ W, W = w8.alloc (.cells #[.slice a8 g.length c8] 24) := ⟨_, rfl⟩
    have hb9 : Below w8.heap.size w8 w9 := by rw [hw9]; exact (Below.refl _ _).alloc (Nat.le_refl _) _
    have hb79 : Below w7.heap.size w7 w9 := hb8.trans (hb9.mono hb8.size)
    have HB9 := Lib.hid (HB8.out.trans (hb9.mono HB8.out.size))
    have HVN9 := Lib.hid (HVN.out.up (Keep.below hb9))
    have HVG9 := Lib.hid (HVG7.out.up (Keep.below hb79))
    have h99 := (show Holds w9 w8.heap.size 24 [.slice a8 g.length c8] by rw [hw9]; exact Holds.new w8 24 #[.slice a8 g.length c8]).cell 0
    have h59 := (H57.out.belowAll hb79).cell 0
    simp only [List.getElem?_cons_zero] at h99 h59
    rw [hw9] at h99 h59
    clear hrn8 hgn8 hvs hb8 HB7 HB8 HVN hb9 hb79 H57 HVG7
    go_wp2_with (fail)
    rw [← hw9]
    clear hw9 h99 h59
    refine (netsFn HVN9.out HVG9.out HSG.out).mono ?_
    rintro e w10 ⟨rfl, hb10⟩
    have HB10 : Hid (Below w.heap.size w w10) := HB9.out.trans (hb10.mono HB9.out.size)
    clear hb10
    go_wp2_with (fail)
    refine (knownFn _).mono ?_
    rintro e w11 ⟨rfl, hb11⟩
    have HB11 : Hid (Below w.heap.size w w11) := HB10.out.trans (hb11.mono HB10.out.size)
    clear hb11
    go_wp2
    go_ret
    exact ⟨rfl, HB11.out⟩
  · have hcf : chk N = false := by simpa using hc
    rw [hcf] at h2
    simp only [Bool.false_eq_true, if_false] at h2
    subst h2
    clear hc hb2
    go_wp2_with (fail)
    refine (knownFn _).mono ?_
    rintro e w3 ⟨rfl, hb3⟩
    have HB3 : Hid (Below w.heap.size w w3) := HB2.out.trans (hb3.mono HB2.out.size)
    clear hb3
    go_wp2
    go_ret
    exact ⟨rfl, HB3.out⟩
end Go.Proofs.Ytcedenoicmpjmaa
end
section
/- What lies in memory while arcs are turned. -/
namespace Go.Proofs.Ytcedenoicmpjmaa
open Go.RowKit
set_option linter.unusedVariables false
set_option linter.unusedSimpArgs false

structure TurO (S b : Nat) (w2 : World) (l : PNet) (vt : Value) (wr : World) : Prop where
  below : Below S w2 wr
  ge : S ≤ w2.heap.size ∧ S ≤ b
  box : Holds wr b 24 [vt]
  row : ∃ fo, wr.ownsRow S 53 5 vt l.length fo ∧ LsF NodeF (fun k => k ≠ b ∧ vt.ownBlock ≠ some k) wr l fo
structure TurI (S S7 : Nat) (l : List PArc) (w7 : World) (vl : Value) (wr : World) : Prop where
  below : Below S7 w7 wr
  ge : S7 ≤ w7.heap.size ∧ S ≤ S7
  row : ∃ fl, wr.ownsRow S7 55 6 vl l.length fl ∧ LsF ArcF (fun k => k < S) wr l fl
theorem TurI.step {S S7 : Nat} {l : List PArc} {w7 wr w' : World} {vl vl' : Value} {a : PArc} {fl c : List Value} {o : Obj} (h : TurI S S7 l w7 vl wr) (hfl : LsF ArcF (fun k => k < S) wr l fl) (hr : wr.ownsRow S7 55 6 vl l.length fl) (hc : ArcF (fun k => k < S) wr a c)
    (hown : w'.ownsRow S7 55 6 vl' (l.length + 1) (fl ++ c)) (hgr : (wr.alloc o).grownBy w' vl.ownBlock) : TurI S S7 (l ++ [a]) w7 vl' w' := by
  have hg := h.ge
  have hb := h.below.size
  have hbl : Below S7 wr w' := ((Below.refl _ wr).alloc (by omega) o).grown hgr (by simp; omega) fun k hk => owns_ge hr k hk
  refine ⟨h.below.trans hbl, h.ge, fl ++ c, by rw [List.length_append]; exact hown, LsF.append ?_ (LsF.sing ?_)⟩
  · exact LsF.up (fun _ _ => oneArc.up fun k hk _ => hbl.block k (by omega)) _ hfl
  · exact oneArc.up (fun k hk _ => hbl.block k (by omega)) hc
theorem TurO.app {S b : Nat} {w2 wr W8 W9 W10 : World} {l : PNet} {y : PNode} {vt vt' : Value} {fo c : List Value} {o : Obj} (h : TurO S b w2 l vt wr) (hr : wr.ownsRow S 53 5 vt l.length fo) (hfo : LsF NodeF (fun k => k ≠ b ∧ vt.ownBlock ≠ some k) wr l fo) (h8 : Below wr.heap.size wr W8)
    (hy : NodeF (fun k => k < S ∨ wr.heap.size ≤ k) W8 y c) (hown : W9.ownsRow S 53 5 vt' (l.length + 1) (fo ++ c)) (hgr : (W8.alloc o).grownBy W9 vt.ownBlock) (hblk : vt'.ownBlock = vt.ownBlock ∨ vt'.ownBlock = some (W8.alloc o).heap.size) (hW : W10 = setR W9 b 0 [vt']) : TurO S b w2 (l ++ [y]) vt' W10 := by
  have hg := h.ge
  have hbs := h.below.size
  have hvl := owns_lt hr
  have hvg := owns_ge hr
  have hbl := h.box.lt
  have hs8 := h8.size
  have hs9 : W8.heap.size ≤ (W8.alloc o).heap.size := by simp
  have hf5 : Fr (fun q => q = b) W9 W10 := by rw [hW]; exact Fr.setRX _ _ 0 _
  have hf9 : Fr (fun q => vt.ownBlock = some q) W8 W9 := ((Fr.refl _ W8).alloc o).grown hgr fun q hq _ => hq
  have hf : Fr (fun q => q = b ∨ vt.ownBlock = some q) W8 W10 := (hf9.mono fun _ _ h => .inr h).trans hf5 fun q _ hq => .inl hq
  have hb8 : Holds W8 b 24 [vt] := h.box.belowAll h8
  have hr8 := owns_below hr h8
  have hb9 : Holds W9 b 24 [vt] := hf9.holds hb8 (owns_ne_holds hr8 hb8 (by decide))
  have hv : ∀ k, k < W8.heap.size → vt.ownBlock ≠ some k → vt'.ownBlock ≠ some k := fun k hk hn he => by
    rcases hblk with hb | hb
    · rw [hb] at he; exact hn he
    · rw [hb] at he; injection he with he; omega
  refine ⟨(h.below.trans (h8.mono (by omega))).trans (hf.to_below (by omega) fun k hk hor => ?_), h.ge, hb9.stored hW (Nat.le_refl _), fo ++ c, ?_, LsF.append ?_ (LsF.sing ?_)⟩
  · rcases hor with rfl | hor
    · omega
    · have := hvg k hor; omega
  · rw [List.length_append]
    exact hf5.owns hown fun g hgg he => owns_ne_holds hown hb9 (by decide) (by rw [← he]; exact hgg)
  · have a0 := LsF.mono (fun _ _ => NodeF.mono (Wide.in_ (w := wr))) _ hfo
    have a1 := LsF.up (w' := W8) (fun _ _ => oneNode.up fun k hk hs => h8.block k hs) _ a0
    have a2 := LsF.up (w' := W10) (fun _ _ => oneNode.up fun k hk hs => hf.block k hs fun hor => hor.elim hk.1.1 hk.1.2) _ a1
    exact LsF.mono (fun _ _ => NodeF.mono fun k hk _ => ⟨hk.1.1, hv k (by omega) hk.1.2⟩) _ a2
  · have hne : ∀ k, (k < S ∨ wr.heap.size ≤ k) → k ≠ b ∧ vt.ownBlock ≠ some k := fun k hk => ⟨by omega, fun he => by have := hvl k he; have := hvg k he; omega⟩
    have a0 := NodeF.mono (Wide.in_ (w := W8)) hy
    have a2 := oneNode.up (w' := W10) (fun k hk hs => hf.block k hs fun hor => hor.elim (hne k hk.1).1 (hne k hk.1).2) a0
    exact NodeF.mono (fun k hk _ => ⟨(hne k hk.1).1, hv k hk.2 (hne k hk.1).2⟩) a2
/-- The node with its arcs turned, in its box. -/
theorem TurI.node {S S7 b7 : Nat} {x : PNode} {w7 wi W8 : World} {va vl : Value} (h : TurI S S7 x.arcs.reverse w7 vl wi) (h7 : Holds wi b7 53 (nodeC va x)) (hb : S ≤ b7) (hW : W8 = setR wi b7 0 [vl]) {lo : Nat} (hlo : lo ≤ S7) : NodeF (fun k => k < S ∨ lo ≤ k) W8 (revX x) (nodeC vl x) ∧ Holds W8 b7 53 (nodeC vl x) ∧ Fr (fun q => q = b7) wi W8 := by
  obtain ⟨fl, r1, r2⟩ := h.row
  have hf : Fr (fun q => q = b7) wi W8 := by rw [hW]; exact Fr.setRX _ _ 0 _
  have hr8 : W8.ownsRow S7 55 6 vl x.arcs.reverse.length fl := hf.owns r1 fun g hg he => owns_ne_holds r1 h7 (by decide) (by rw [← he]; exact hg)
  refine ⟨⟨vl, rfl, fl, RowL.of_owns2 hr8 fun g hg => .inr (Nat.le_trans hlo (owns_ge r1 g hg)), LsF.mono (fun _ _ => ArcF.mono fun k hk _ => .inl hk) _ (LsF.up (fun _ _ => oneArc.up fun k hk hs => hf.block k hs fun e => by omega) _ r2)⟩, h7.stored hW (Nat.le_of_ble_eq_true rfl), hf⟩
theorem TurO.net {S b : Nat} {w2 wr : World} {l : PNet} {vt : Value} (h : TurO S b w2 l vt wr) : NetV (fun _ => True) wr vt l := by
  obtain ⟨fo, h1, h2⟩ := h.row
  exact ⟨fo, RowL.of_owns h1 fun _ _ => trivial, LsF.mono (fun _ _ => NodeF.mono fun _ _ _ => trivial) _ h2⟩
/-- A row that is not empty, taken apart. -/
theorem RowL.some {P : Nat → Prop} {w : World} {size n : Nat} {v : Value} {f : List Value} (h : RowL P w size v n f) (hn : 0 < n) : ∃ g o cap, v = .slice (some ⟨g, o, none⟩) n cap := by
  obtain ⟨a, cap, h1, _, _, _, _, h6⟩ := h
  obtain ⟨g, o, _, _, h7, _⟩ := h6 hn
  exact ⟨g, o, cap, by rw [h1, h7]⟩
theorem str_at {P : Nat → Prop} {w : World} {g o L cap : Nat} {st : List Nat} (h : RowL P w 1 (.slice (some ⟨g, o, none⟩) L cap) L (st.map fun m => .string (keyS m))) {j k : Nat} (hj : j < L) (hk : st[j]? = some k) : w.cell? ⟨g, o + j, none⟩ = some (.string (keyS k)) := by
  obtain ⟨g', o', cap', x, h1, h2, h3⟩ := h.at1 hj
  injection h1 with h1 _ _
  injection h1 with h1
  injection h1 with h1 h1'
  subst h1 h1'
  rw [List.getElem?_map, hk] at h2
  injection h2 with h2
  rw [h3, ← h2]
theorem node_at {P : Nat → Prop} {w : World} {gg og L cg : Nat} {g : PNet} {fg : List Value} (h : RowL P w 5 (.slice (some ⟨gg, og, none⟩) L cg) L fg) (hg : LsF NodeF P w g fg) (hl : g.length = L) {j : Nat} (hj : j < L) {x : PNode} (hx : g[j]? = some x) :
    ∃ a c, w.cell? ⟨gg, og + j * 5, none⟩ = some (.slice a x.arcs.length c) ∧ w.cell? ⟨gg, og + j * 5 + 1, none⟩ = some (.int .u64 (x.props : Int)) := by
  subst hl
  obtain ⟨gb, ob, cb, c, h1, h2, h3⟩ := h.atN oneNode hg hj
  injection h1 with h1 _ _
  injection h1 with h1
  injection h1 with h1 h1'
  subst h1 h1'
  rw [List.getElem?_eq_getElem hj] at hx
  injection hx with hx
  rw [hx] at h2
  obtain ⟨va, rfl, f, h4, _⟩ := h2
  obtain ⟨a, k, rfl, _⟩ := h4.form
  exact ⟨a, k, h3 0 _ rfl, h3 1 _ rfl⟩
theorem below_drewN {B : Nat} {a w : World} (h : Below B a w) (n : Nat) : Below B a (w.drewN n) := ⟨h.os, h.tape, h.output, h.size, h.block⟩
theorem bytes_eq {a b : ByteArray} (h : (a.toList == b.toList) = true) : a = b := by
  have h' : a.toList = b.toList := by simpa using h
  rw [ByteArray.toList_eq, ByteArray.toList_eq] at h'
  exact ByteArray.ext (Array.ext' h')
theorem rev_step {l : List PArc} {j : Nat} (hj : j < l.length) : l.reverse.take (j + 1) = l.reverse.take j ++ [l[l.length - 1 - j]] := by
  rw [List.take_add_one, List.getElem?_eq_getElem (by simpa using hj), List.getElem_reverse]
  rfl
theorem rev_step' {l : List PArc} {j kk : Nat} {a : PArc} (hj : j < l.length) (hk : kk = l.length - 1 - j) (hl : kk < l.length) (ha : l[kk] = a) : l.reverse.take (j + 1) = l.reverse.take j ++ [a] := by
  subst hk
  rw [rev_step hj, ha]
theorem turn_small {N : PNet} (hs : Small N) (hc : chk N = true) (hl : N.length < 20000) : Small (turnN N) := small_chk (turn_chk hc hl) fun x hx b hb => by
  unfold turnN at hx
  rcases List.mem_append.1 hx with hx | hx
  · obtain ⟨y, hy, rfl⟩ := List.mem_map.1 hx
    exact hs.mem hy (by simpa [revX] using hb)
  · rw [List.mem_singleton] at hx
    subst hx
    cases hb
end Go.Proofs.Ytcedenoicmpjmaa
end
section
/- copy of a row of things of any size into a block of the call's own; the statements' list, write and pick. -/
namespace Go.Proofs.Ytcedenoicmpjmaa
open Go.RowKit
set_option linter.unusedVariables false
set_option linter.unusedSimpArgs false

/-- What lies in the block behind a copy (a name of its own, so that the walk leaves it standing). -/
structure CopyH (w : World) (g : Nat) (t : TypeId) (flat cur : List Value) : Prop where
  out : Holds w g t (flat ++ cur.drop flat.length)
section
variable {P : Program} {w : World}
theorem run_copyL {dT sT ty elem : TypeId} {sz n g dLen dCap : Nat} {R : Nat → Prop} {v : Value} {flat cur : List Value} {t : TypeId} (hu : P.underlying dT = some (.slice elem)) (hsz : (P.info? elem).map (·.size) = some sz) (hr : RowL R w sz v n flat) (hn : n ≤ dLen) (hg : Holds w g t cur) (hfit : flat.length ≤ cur.length) (h1 : ∀ u ∈ flat, u.oneCell' = true) :
    ∃ w', (Builtin.copy_ #[dT, sT] ty #[.slice (some ⟨g, 0, none⟩) dLen dCap, v]).run P w = .ok (goInt n) w' ∧ Holds w' g t (flat ++ cur.drop flat.length) ∧ Fr (fun q => q = g) w w' := by
  obtain ⟨a, cap, rfl, h2, h3, h4, h5, h6⟩ := hr
  cases hq : P.info? elem with
  | none => simp [hq] at hsz
  | some i =>
    have hi : i.size = sz := by simpa [hq] using hsz
    have hm : Nat.min n dLen = n := Nat.min_eq_left hn
    have hst := run_storeCells_at P g 0 t flat 0 cur.toArray w hg (by simpa using hfit) h1
    simp only [Nat.zero_add, List.take_zero, List.nil_append] at hst
    have hfr : Fr (fun q => q = g) w (w.setRow g (flat ++ cur.toArray.toList.drop flat.length).toArray) := ⟨rfl, rfl, rfl, by simp [World.setRow], fun k _ hk => setRow_other w g k _ hk⟩
    have hhd : Holds (w.setRow g (flat ++ cur.toArray.toList.drop flat.length).toArray) g t (flat ++ cur.drop flat.length) := by
      have := setRow_heap w g cur.toArray (flat ++ cur.toArray.toList.drop flat.length).toArray t (0, 0) hg
      simpa [Holds] using this
    refine ⟨_, ?_, hhd, hfr⟩
    by_cases hn0 : n = 0
    · subst hn0
      obtain rfl : flat = [] := List.eq_nil_of_length_eq_zero (by rw [h4, Nat.zero_mul])
      have hl : ∀ (x : Addr), (loadCells x 0).run P w = .ok #[] w := fun x => by simpa using run_loadCells_list (P := P) w x [] (by simp)
      cases a <;> simp [Builtin.copy_, run_underlying hu, Builtin.lenOf, Builtin.firstCells, sizeOf, typeInfo, hq, hl, hst]
    · obtain ⟨g', o', cs, t', rfl, _, k3, k4⟩ := h6 (by omega)
      have hl := run_loadCells_list (P := P) w ⟨g', o', none⟩ flat (fun j u hj => by
        have hjl := (List.getElem?_eq_some_iff.1 hj).1
        rw [Addr.add_lit, k3.cell, k4 j (by omega)]
        exact hj)
      rw [h4] at hl
      simp [Builtin.copy_, run_underlying hu, Builtin.lenOf, Builtin.firstCells, sizeOf, typeInfo, hq, hi, hm, hl, hst]
theorem wpList_copyL {ops : Array Oper} {rest : List Oper} {o : Oper} {a : Act} {Q : Exit → Act → World → Prop} (hgd : o.guard = none) (d s : Operand) (dT sT : TypeId) (ho : o.op = .call { callee := .builtin .copy, args := #[d, s], argTypes := #[dT, sT] })
    (elem : TypeId) (sz : Nat) (hu : P.underlying dT = some (.slice elem)) (hsz : (P.info? elem).map (·.size) = some sz) (g dLen dCap n : Nat) (hd : a.eval d = .slice (some ⟨g, 0, none⟩) dLen dCap) (v : Value) (hs : a.eval s = v) {R : Nat → Prop} (flat : List Value) (hr : RowL R w sz v n flat) (hn : n ≤ dLen) {t : TypeId} (cur : List Value) (hg : Holds w g t cur) (hfit : flat.length ≤ cur.length) (h1 : ∀ u ∈ flat, u.oneCell' = true)
    (h : ∀ w', CopyH w' g t flat cur → Fr (fun q => q = g) w w' → wpList P ops Q rest (a.put o.dst (goInt n)) w') : wpList P ops Q (o :: rest) a w := by
  refine wpList_plain hgd fun K hK => ?_
  obtain ⟨w', hrun, r1, r2⟩ := run_copyL (dT := dT) (sT := sT) (ty := o.type) (dCap := dCap) hu hsz hr hn hg hfit h1
  unfold Oper.wp
  simp [execOp, ho, resolve, invoke, builtin, hd, hs, hrun, Result.andThen]
  exact hK _ _ (h w' ⟨r1⟩ r2)
end
section
variable {P : Program} {ops : Array Oper} {Q : Exit → Act → World → Prop} {a : Act} {w : World} {rest : List Oper} {o : Oper}
theorem halt_call2 (c : Call) (ho : o.op = .call c) (h : Stop (wpList P ops Q (o :: rest) a w)) : wpList P ops Q (o :: rest) a w := h.out
theorem halt_store (ty : TypeId) (x y : Operand) (ho : o.op = .store ty x y) (h : Stop (wpList P ops Q (o :: rest) a w)) : wpList P ops Q (o :: rest) a w := h.out
end
theorem owns_all {w : World} {base sz n : Nat} {t : TypeId} {g : Nat} {flat : List Value} (h : w.ownsRow base t sz (.slice (some ⟨g, 0, none⟩) n n) n flat) : Holds w g t flat ∧ base ≤ g := by
  rcases h.2 with ⟨h0, _⟩ | ⟨g', cap, cur, hv, hb, hg, _, _, hcs, ht⟩
  · cases h0
  · injection hv with hv _ hc
    injection hv with hv
    injection hv with hv _
    subst hv
    subst hc
    rw [← hcs, ← Array.length_toList, List.take_length] at ht
    exact ⟨by rw [← ht]; unfold Holds; simpa using hg, hb⟩
structure MadeH (w : World) (g : Nat) (t : TypeId) (n : Nat) : Prop where
  out : ∃ cur, Holds w g t cur ∧ cur.length = n
theorem wpList_makeL {P : Program} {w : World} {ops : Array Oper} {rest : List Oper} {o : Oper} {a : Act} {Q : Exit → Act → World → Prop} (hgd : o.guard = none) (l c : Operand) (t : TypeId) (ho : o.op = .makeSlice t l c) (e : TypeId) (sz bytes : Nat) (ht : P.underlying t = some (.slice e))
    (hinfo : (P.info? e).map (fun i => (i.zero.map fun z => z.cells.size, i.size, i.bytes)) = some (some sz, sz, bytes)) (kl kc : IntKind) (L C : Int) (n : Nat) (hl : a.eval l = .int kl L) (hc : a.eval c = .int kc C) (hL : L = (n : Int)) (hC : C = (n : Int)) (hb : bytes * n ≤ 281474976710656) (hn : n ≤ maxLen)
    (h : ∀ w', MadeH w' w.heap.size e (n * sz) → Below w.heap.size w w' → wpList P ops Q rest (a.put o.dst (.slice (some ⟨w.heap.size, 0, none⟩) n n)) w') : wpList P ops Q (o :: rest) a w := by
  obtain ⟨i, z, h1, h2, h3, h4, h5⟩ := info_of hinfo
  refine wpList_make_full w hgd l c t ho w.heap.size e i z sz ht h1 h2 h3 kl kc L C n hl hc hL hC (by rw [h4]; exact hb) hn (Nat.le_refl _) fun w' hown hgr => ?_
  exact h w' ⟨_, (owns_all hown).1, hown.1⟩ ((Below.refl _ w).grown hgr (Nat.le_refl _) fun k hk => by cases hk)
/-- A row of numbers of its own, with a cell to spare. -/
def ListPost (l : List Int) (w : World) (e : Ending) (w' : World) : Prop := Below w.heap.size w w' ∧ ∃ g, e = .returned (.slice (some ⟨g, 0, none⟩) l.length (l.length + 1)) ∧ w.heap.size ≤ g ∧ Holds w' g 3 (l.map intV ++ [.int .i64 77])
set_option maxHeartbeats 1000000 in
set_option maxRecDepth 100000 in
theorem listFn {P : Nat → Prop} {w : World} {v : Value} {l : List Int} (h : RowL P w 1 v l.length (l.map intV)) (hn : l.length ≤ 2000000) : Calls Try.prog 21 #[v] w (ListPost l w) := by
  obtain ⟨a0, k0, rfl, hk0, hk1, _⟩ := h.form
  obtain ⟨n, hnl⟩ : ∃ n, l.length = n := ⟨_, rfl⟩
  have H := Lib.hid h
  have HN := Lib.hid hnl
  rw [hnl] at hn hk0 ⊢
  have hwn : IntKind.i64.wrap ((n : Int) + 1) = (n : Int) + 1 := by rw [IntKind.wrap_i64]; omega
  clear h hnl
  go_enter Try.func21, Try.ntmps21
  go_wp2_with (refine wpList_makeL rfl _ _ _ rfl 3 1 8 Try.underlying44 info_int .i64 .i64 ((n : Int) + 1) ((n : Int) + 1) (n + 1) rfl rfl (by omega) (by omega) (by omega) (by unfold maxLen; omega) ?_)
  intro w1 hm hb1
  obtain ⟨cur, hd, hlen⟩ := hm.out
  have HD := Lib.hid hd
  have HL := Lib.hid hlen
  have HB1 := Lib.hid hb1
  have H1 := Lib.hid (H.out.up (Keep.below hb1))
  have hone : ∀ u ∈ l.map intV, u.oneCell' = true := fun u hu => by
    obtain ⟨z, _, rfl⟩ := List.mem_map.1 hu
    rfl
  clear hm hd hlen hb1
  go_wp2_with (refine wpList_copyL rfl (.tmp 8) (.tmp 9) _ _ rfl 3 1 Try.underlying44 sz_Int w.heap.size (n + 1) (n + 1) n rfl (.slice a0 n k0) rfl (l.map intV) (by rw [← HN.out]; exact H1.out) (by omega) cur HD.out (by rw [List.length_map, HN.out, HL.out]; omega) hone ?_)
  intro w2 hd2 hf2
  have hd2 := hd2.out
  obtain ⟨cs2, hcs⟩ : ∃ c, l.map intV ++ cur.drop (l.map intV).length = c := ⟨_, rfl⟩
  rw [hcs] at hd2
  replace hcs := hcs.symm
  have HD2 := Lib.hid hd2
  have HB2 : Hid (Below w.heap.size w w2) := HB1.out.trans (hf2.to_below HB1.out.size fun q hq e => by omega)
  have HCL : Hid (cs2.length = n + 1) := by
    have h3 := HL.out
    have h4 := HN.out
    show _ = _
    rw [hcs]
    simp
    omega
  have HCT : Hid (cs2.take n = l.map intV) := by
    have h4 := HN.out
    show _ = _
    rw [hcs, List.take_append_of_le_length (by simp; omega), List.take_of_length_le (by simp; omega)]
  have hl2 : n < cs2.length := by rw [HCL.out]; omega
  have hnc : (n : Int) ≤ (n : Int) + 1 := by omega
  have hn0 : (0 : Int) ≤ (n : Int) := by omega
  have hn1 : (n : Int) < (n : Int) + 1 := by omega
  have hwn0 : IntKind.i64.wrap (n : Int) = (n : Int) := by rw [IntKind.wrap_i64]; omega
  clear hd2 hf2 HD HB1 hcs
  go_wp2_with (refine wpList_store1 rfl 3 _ _ rfl w.heap.size n (.int .i64 77) rfl rfl HD2.out hl2 sz_Int rfl rfl ?_)
  refine Named.mk (fun w3 hw3 => ?_)
  have hf3 : Fr (fun q => q = w.heap.size) w2 w3 := by rw [hw3]; exact Fr.setRX _ _ n _
  have HB3 : Hid (Below w.heap.size w w3) := HB2.out.trans (hf3.to_below HB2.out.size fun q hq e => by omega)
  have hd3 := HD2.out.stored hw3 (by rw [HCL.out]; exact Nat.le_refl _)
  rw [HCT.out, List.drop_of_length_le (by rw [HCL.out]; exact Nat.le_refl _), List.append_nil] at hd3
  have HD3 := Lib.hid hd3
  clear hw3 hf3 hd3 HD2 HB2 hl2
  go_wp2
  go_ret
  refine ⟨HB3.out, w.heap.size, ?_, Nat.le_refl _, HD3.out⟩
  rw [HN.out]
  rfl
end Go.Proofs.Ytcedenoicmpjmaa
end
section
/- Rows that may be written into, whatever they hold: shapes that stand while such rows are spoilt; the statements' write. -/
namespace Go.Proofs.Ytcedenoicmpjmaa
open Go.RowKit
set_option linter.unusedVariables false
set_option linter.unusedSimpArgs false

/-- A row of numbers that may be written into. -/
def SI (R : Nat → Prop) (w : World) (v : Value) : Prop := v = .slice none 0 0 ∨ ∃ g n c cs, v = .slice (some ⟨g, 0, none⟩) n c ∧ n ≤ c ∧ c ≤ 9223372036854775807 ∧ R g ∧ Holds w g 3 cs ∧ c ≤ cs.length
/-- The arcs of a row: their rows of numbers may be written into. -/
def AE (R : Nat → Prop) (w : World) (cs : List Value) (n : Nat) : Prop := ∀ k, k < n → ∃ rs ws, cs[k * 6 + 3]? = some rs ∧ cs[k * 6 + 4]? = some ws ∧ SI R w rs ∧ SI R w ws
def SA (R : Nat → Prop) (w : World) (v : Value) : Prop := v = .slice none 0 0 ∨ ∃ g n c cs, v = .slice (some ⟨g, 0, none⟩) n c ∧ n ≤ c ∧ n ≤ 1000000000 ∧ R g ∧ Holds w g 55 cs ∧ n * 6 ≤ cs.length ∧ AE R w cs n
section
variable {R R' : Nat → Prop} {w w' : World}
theorem SI.up (hu : Keep R w w') {v : Value} (h : SI R w v) : SI R w' v := h.imp id fun ⟨g, n, c, cs, h1, h2, h3, h4, h5, h6⟩ => ⟨g, n, c, cs, h1, h2, h3, h4, h5.of_eq (hu g h4 h5.lt), h6⟩
theorem SI.mono (hl : Wide R R' w) {v : Value} (h : SI R w v) : SI R' w v := h.imp id fun ⟨g, n, c, cs, h1, h2, h3, h4, h5, h6⟩ => ⟨g, n, c, cs, h1, h2, h3, hl g h4 h5.lt, h5, h6⟩
theorem AE.up (hu : Keep R w w') {cs : List Value} {n : Nat} (h : AE R w cs n) : AE R w' cs n := fun k hk => by
  obtain ⟨rs, ws, h1, h2, h3, h4⟩ := h k hk
  exact ⟨rs, ws, h1, h2, h3.up hu, h4.up hu⟩
theorem AE.mono (hl : Wide R R' w) {cs : List Value} {n : Nat} (h : AE R w cs n) : AE R' w cs n := fun k hk => by
  obtain ⟨rs, ws, h1, h2, h3, h4⟩ := h k hk
  exact ⟨rs, ws, h1, h2, h3.mono hl, h4.mono hl⟩
theorem SA.up (hu : Keep R w w') {v : Value} (h : SA R w v) : SA R w' v := h.imp id fun ⟨g, n, c, cs, h1, h2, h2', h3, h4, h5, h6⟩ => ⟨g, n, c, cs, h1, h2, h2', h3, h4.of_eq (hu g h3 h4.lt), h5, h6.up hu⟩
theorem SA.mono (hl : Wide R R' w) {v : Value} (h : SA R w v) : SA R' w v := h.imp id fun ⟨g, n, c, cs, h1, h2, h2', h3, h4, h5, h6⟩ => ⟨g, n, c, cs, h1, h2, h2', hl g h3 h4.lt, h4, h5, h6.mono hl⟩
end
/-- What a stretch of spoiling keeps. -/
structure Sp (R : Nat → Prop) (w w' : World) : Prop where
  fr : Fr R w w'
  si : ∀ v, SI R w v → SI R w' v
  sa : ∀ v, SA R w v → SA R w' v
  node : ∀ g cs, Holds w g 53 cs → Holds w' g 53 cs
  net : ∀ g cs, Holds w g 24 cs → Holds w' g 24 cs
  mov : ∀ g cs, Holds w g 79 cs → Holds w' g 79 cs
theorem Sp.refl (R : Nat → Prop) (w : World) : Sp R w w := ⟨Fr.refl _ _, fun _ h => h, fun _ h => h, fun _ _ h => h, fun _ _ h => h, fun _ _ h => h⟩
theorem Sp.trans {R : Nat → Prop} {a b c : World} (h : Sp R a b) (k : Sp R b c) : Sp R a c := ⟨h.fr.trans k.fr fun _ _ h => h, fun v q => k.si v (h.si v q), fun v q => k.sa v (h.sa v q), fun g cs q => k.node g cs (h.node g cs q), fun g cs q => k.net g cs (h.net g cs q), fun g cs q => k.mov g cs (h.mov g cs q)⟩
/-- A block of numbers is written into. -/
theorem Sp.ints {R : Nat → Prop} {w w' : World} {g : Nat} {cs cs' : List Value} (hg : R g) (h : Holds w g 3 cs) (h' : Holds w' g 3 cs') (hl : cs'.length = cs.length) (hf : Fr (fun q => q = g) w w') : Sp R w w' := by
  have ht : ∀ {g' : Nat} {t : TypeId} {ds : List Value}, t ≠ 3 → Holds w g' t ds → Holds w' g' t ds := fun hne hh => hf.holds hh (hh.ne_of_type h hne)
  have hsi : ∀ v, SI R w v → SI R w' v := fun v hv => hv.imp id fun ⟨g1, n, c, ds, h1, h2, h3, h4, h5, h6⟩ => by
    by_cases e : g1 = g
    · subst e
      have he : ds = cs := by
        unfold Holds at h5 h
        rw [h5] at h
        injection h with h
        injection h with h
        exact Array.toList_inj.2 h
      subst he
      exact ⟨g1, n, c, cs', h1, h2, h3, h4, h', by omega⟩
    · exact ⟨g1, n, c, ds, h1, h2, h3, h4, hf.holds h5 e, h6⟩
  refine ⟨hf.mono fun k _ hk => by rw [hk]; exact hg, hsi, fun v hv => hv.imp id fun ⟨g1, n, c, ds, h1, h2, h2', h3, h4, h5, h6⟩ => ⟨g1, n, c, ds, h1, h2, h2', h3, ht (by decide) h4, h5, fun k hk => ?_⟩, fun g cs hh => ht (by decide) hh, fun g cs hh => ht (by decide) hh, fun g cs hh => ht (by decide) hh⟩
  obtain ⟨rs, ws, q1, q2, q3, q4⟩ := h6 k hk
  exact ⟨rs, ws, q1, q2, hsi _ q3, hsi _ q4⟩
def spoilA : List Value := [.int .i64 66, .int .i64 (-5), .int .i64 0, .slice none 0 0, .slice none 0 0, .int .u64 0]
/-- An arc is overwritten. -/
theorem Sp.arc {R : Nat → Prop} {w w' : World} {g k : Nat} {cs : List Value} (hg : R g) (h : Holds w g 55 cs) (hk : k * 6 + 6 ≤ cs.length) (hw : w' = setR w g (k * 6) spoilA) : Sp R w w' := by
  have hf : Fr (fun q => q = g) w w' := by rw [hw]; exact Fr.setRX g spoilA (k * 6) w
  have h' : Holds w' g 55 (cs.take (k * 6) ++ (spoilA ++ cs.drop (k * 6 + 6))) := h.stored hw hk
  have ht : ∀ {g' : Nat} {t : TypeId} {ds : List Value}, t ≠ 55 → Holds w g' t ds → Holds w' g' t ds := fun hne hh => hf.holds hh (hh.ne_of_type h hne)
  have hsi : ∀ v, SI R w v → SI R w' v := fun v hv => hv.imp id fun ⟨g1, n, c, ds, h1, h2, h3, h4, h5, h6⟩ => ⟨g1, n, c, ds, h1, h2, h3, h4, ht (by decide) h5, h6⟩
  have hlen : (cs.take (k * 6) ++ (spoilA ++ cs.drop (k * 6 + 6))).length = cs.length := by simp [spoilA]; omega
  have hat : ∀ i, (i < k * 6 ∨ k * 6 + 6 ≤ i) → (cs.take (k * 6) ++ (spoilA ++ cs.drop (k * 6 + 6)))[i]? = cs[i]? := fun i hi => by
    rcases hi with hi | hi
    · rw [List.getElem?_append_left (by simp; omega), List.getElem?_take_of_lt hi]
    · rw [List.getElem?_append_right (by simp; omega), List.getElem?_append_right (by simp [spoilA]; omega), List.getElem?_drop]
      congr 1
      simp [spoilA]
      omega
  refine ⟨hf.mono fun k _ hk => by rw [hk]; exact hg, hsi, fun v hv => hv.imp id fun ⟨g1, n, c, ds, h1, h2, h2', h3, h4, h5, h6⟩ => ?_, fun g cs hh => ht (by decide) hh, fun g cs hh => ht (by decide) hh, fun g cs hh => ht (by decide) hh⟩
  by_cases e : g1 = g
  · subst e
    have he : ds = cs := by
      unfold Holds at h4 h
      rw [h4] at h
      injection h with h
      injection h with h
      exact Array.toList_inj.2 h
    subst he
    refine ⟨g1, n, c, _, h1, h2, h2', h3, h', by omega, fun i hi => ?_⟩
    have hi6 : i * 6 + 6 ≤ ds.length := by omega
    by_cases e : i = k
    · subst e
      refine ⟨.slice none 0 0, .slice none 0 0, ?_, ?_, .inl rfl, .inl rfl⟩
      · rw [List.getElem?_append_right (by simp; omega), List.getElem?_append_left (by simp [spoilA]; omega)]
        rw [show i * 6 + 3 - (ds.take (i * 6)).length = 3 by simp; omega]
        rfl
      · rw [List.getElem?_append_right (by simp; omega), List.getElem?_append_left (by simp [spoilA]; omega)]
        rw [show i * 6 + 4 - (ds.take (i * 6)).length = 4 by simp; omega]
        rfl
    · obtain ⟨rs, ws, q1, q2, q3, q4⟩ := h6 i hi
      exact ⟨rs, ws, by rw [hat _ (by omega)]; exact q1, by rw [hat _ (by omega)]; exact q2, hsi _ q3, hsi _ q4⟩
  · refine ⟨g1, n, c, ds, h1, h2, h2', h3, hf.holds h4 e, h5, fun i hi => ?_⟩
    obtain ⟨rs, ws, q1, q2, q3, q4⟩ := h6 i hi
    exact ⟨rs, ws, q1, q2, hsi _ q3, hsi _ q4⟩
/-- Blocks are laid. -/
theorem Sp.below {R : Nat → Prop} {w w' : World} (hb : Below w.heap.size w w') : Sp R w w' := ⟨Fr.of_below hb _, fun v h => h.up (Keep.below hb), fun v h => h.up (Keep.below hb), fun g cs h => h.belowAll hb, fun g cs h => h.belowAll hb, fun g cs h => h.belowAll hb⟩
def NoneP (e : Ending) : Prop := ∃ v, e = .returned v
set_option maxHeartbeats 1000000 in
set_option maxRecDepth 100000 in
theorem writeFn {R : Nat → Prop} {w : World} {v : Value} (h : SI R w v) : Calls Try.prog 30 #[v] w (fun e w' => NoneP e ∧ Sp R w w') := by
  rcases h with rfl | ⟨g, n, c, cs, rfl, hnc, hc, hR, hh, hl⟩
  · go_enter Try.func30, Try.ntmps30
    go_wp2
    go_loopw [2] (fun x wr => x = .int .i64 0 ∧ Hid (Sp R w wr)) (fun _ _ => 0)
    case atStart => exact ⟨rfl, Sp.refl _ _⟩
    case round =>
      obtain ⟨rfl, HS⟩ := hrel
      go_wp2
      refine bodyPost_end (results_none rfl _ _ _) rfl ?_
      exact ⟨⟨_, rfl⟩, HS.out⟩
  · have hc0 : (0 : Int) ≤ (c : Int) := by omega
    have hwc : IntKind.i64.wrap (c : Int) = (c : Int) := by rw [IntKind.wrap_i64]; omega
    have H := Lib.hid hh
    go_enter Try.func30, Try.ntmps30
    go_wp2
    go_loopw [2] (fun x wr => ∃ i : Nat, x = .int .i64 (i : Int) ∧ i ≤ c ∧ Hid (∃ ds, Holds wr g 3 ds ∧ ds.length = cs.length ∧ Fr (fun q => q = g) w wr)) (fun x _ => c - (intOf x).toNat)
    case atStart => exact ⟨0, rfl, Nat.zero_le _, cs, hh, rfl, Fr.refl _ _⟩
    case round =>
      obtain ⟨i, hx, hi, HS⟩ := hrel
      subst hx
      obtain ⟨ds, hd, hdl, hf⟩ := HS.out
      by_cases hic : i < c
      · have hi2 : (i : Int) < (c : Int) := by omega
        have hi0 : (0 : Int) ≤ (i : Int) := by omega
        have hwi : IntKind.i64.wrap (i : Int) = (i : Int) := by rw [IntKind.wrap_i64]; omega
        have hwi1 : IntKind.i64.wrap ((i : Int) + 1) = (i : Int) + 1 := by rw [IntKind.wrap_i64]; omega
        have HD := Lib.hid hd
        have HF := Lib.hid hf
        have hil : i < ds.length := by omega
        clear hd hf
        go_wp2_with (refine wpList_store1 rfl 3 _ _ rfl g i (.int .i64 (-66)) rfl rfl HD.out hil sz_Int rfl rfl ?_)
        refine Named.mk (fun w3 hw3 => ?_)
        have hd3 := HD.out.stored hw3 (by show i + 1 ≤ _; omega)
        have hf3 : Fr (fun q => q = g) wr w3 := by rw [hw3]; exact Fr.setRX g _ i wr
        have HS3 : Hid (∃ ds, Holds w3 g 3 ds ∧ ds.length = cs.length ∧ Fr (fun q => q = g) w w3) := ⟨_, hd3, by simp; omega, HF.out.trans hf3 fun _ _ h => h⟩
        clear hw3 hd3 hf3 HD HF HS
        go_wp2
        go_roundw
        case rel => exact ⟨i + 1, by simp, by omega, HS3.out⟩
        case measure => (simp [intOf]) <;> omega
      · obtain rfl : i = c := by omega
        have HSP : Hid (Sp R w wr) := Sp.ints hR hh hd hdl hf
        clear hd hf HS
        go_wp2
        refine bodyPost_end (results_none rfl _ _ _) rfl ?_
        exact ⟨⟨_, rfl⟩, HSP.out⟩
end Go.Proofs.Ytcedenoicmpjmaa
end
section
/- The walk of the statements' spoil: every row of a graph is written into. -/
namespace Go.Proofs.Ytcedenoicmpjmaa
open Go.RowKit
set_option linter.unusedVariables false
set_option linter.unusedSimpArgs false

/-- A graph all of whose rows may be written into. -/
def SN (R : Nat → Prop) (w : World) (v : Value) : Prop := ∃ g n c cs, v = .slice (some ⟨g, 0, none⟩) n c ∧ n ≤ c ∧ n ≤ 1000000000 ∧ R g ∧ Holds w g 53 cs ∧ n * 5 ≤ cs.length ∧ ∀ i, i < n → ∃ va, cs[i * 5]? = some va ∧ SA R w va
def spoilN : List Value := [.slice none 0 0, .int .u64 66, .bool false, .bool false, .bool false]
theorem spoilN_at {cs : List Value} {i j : Nat} (h : j * 5 + 5 ≤ cs.length) (hi : i * 5 + 5 ≤ cs.length) : (cs.take (j * 5) ++ (spoilN ++ cs.drop (j * 5 + 5)))[i * 5]? = if i = j then some (.slice none 0 0) else cs[i * 5]? := by
  by_cases e : i = j
  · subst e
    rw [if_pos rfl, List.getElem?_append_right (by simp; omega), List.getElem?_append_left (by simp [spoilN]; omega)]
    rw [show i * 5 - (cs.take (i * 5)).length = 0 by simp; omega]
    rfl
  · rw [if_neg e]
    by_cases hij : i < j
    · rw [List.getElem?_append_left (by simp; omega), List.getElem?_take_of_lt (by omega)]
    · rw [List.getElem?_append_right (by simp; omega), List.getElem?_append_right (by simp [spoilN]; omega), List.getElem?_drop]
      congr 1
      simp [spoilN]
      omega
theorem SA.form {R : Nat → Prop} {w : World} {v : Value} (h : SA R w v) : ∃ a n c, v = .slice a n c ∧ n ≤ 1000000000 := by
  rcases h with rfl | ⟨g, n, c, cs, rfl, _, h, _⟩
  · exact ⟨_, _, _, rfl, by omega⟩
  · exact ⟨_, _, _, rfl, h⟩
theorem SA.at {R : Nat → Prop} {w : World} {a : Option Addr} {n c k : Nat} (h : SA R w (.slice a n c)) (hk : k < n) : ∃ g cs rs ws, a = some ⟨g, 0, none⟩ ∧ R g ∧ Holds w g 55 cs ∧ k * 6 + 6 ≤ cs.length ∧ w.cell? ⟨g, k * 6 + 3, none⟩ = some rs ∧ w.cell? ⟨g, k * 6 + 4, none⟩ = some ws ∧ SI R w rs ∧ SI R w ws := by
  rcases h with h | ⟨g, n', c', cs, h, h2, h3, h4, h5, h6, h7⟩
  · injection h with _ h _
    omega
  · injection h with e1 e2 e3
    subst e1 e2 e3
    obtain ⟨rs, ws, q1, q2, q3, q4⟩ := h7 k hk
    exact ⟨g, cs, rs, ws, rfl, h4, h5, by omega, (h5.cell _).trans q1, (h5.cell _).trans q2, q3, q4⟩
set_option maxHeartbeats 4000000 in
set_option maxRecDepth 100000 in
theorem spoilFn {R : Nat → Prop} {w : World} {v : Value} (h : SN R w v) : Calls Try.prog 12 #[.agg #[v]] w (fun e w' => NoneP e ∧ Fr R w w') := by
  obtain ⟨g, n, c, cs, rfl, hnc, hn, hR, hh, hl, hs⟩ := h
  obtain ⟨w1, hw1⟩ : ∃ W, W = w.alloc (.cells #[.slice (some ⟨g, 0, none⟩) n c] 24) := ⟨_, rfl⟩
  have hb1 : Below w.heap.size w w1 := by rw [hw1]; exact (Below.refl _ _).alloc (Nat.le_refl _) _
  have HB1 := Lib.hid hb1
  have H1 : Hid (Holds w1 w.heap.size 24 [.slice (some ⟨g, 0, none⟩) n c]) := by rw [hw1]; exact Holds.new w 24 #[.slice (some ⟨g, 0, none⟩) n c]
  have HS0 : Hid (∃ ds, Holds w1 g 53 ds ∧ ds.length = cs.length ∧ Fr R w1 w1 ∧ Holds w1 w.heap.size 24 [.slice (some ⟨g, 0, none⟩) n c] ∧ ∀ i, i < n → ∃ va, ds[i * 5]? = some va ∧ SA R w1 va) := ⟨cs, hh.belowAll hb1, rfl, Fr.refl _ _, H1.out, fun i hi => by obtain ⟨va, q1, q2⟩ := hs i hi; exact ⟨va, q1, q2.up (Keep.below hb1)⟩⟩
  have hlt : g < w.heap.size := hh.lt
  clear hh hs hb1
  go_enter Try.func12, Try.ntmps12
  go_wp2
  rw [← hw1]
  clear hw1
  obtain ⟨b1, hb1e⟩ : ∃ b, w.heap.size = b := ⟨_, rfl⟩
  have HB1E := Lib.hid hb1e
  rw [hb1e] at HS0 hlt ⊢
  clear hb1e H1
  go_loopw [2] (fun x wr => ∃ i : Nat, x = .int .i64 (i : Int) ∧ i ≤ n ∧ Hid (∃ ds, Holds wr g 53 ds ∧ ds.length = cs.length ∧ Fr R w1 wr ∧ Holds wr b1 24 [.slice (some ⟨g, 0, none⟩) n c] ∧ ∀ i, i < n → ∃ va, ds[i * 5]? = some va ∧ SA R wr va)) (fun x _ => n - (intOf x).toNat)
  case atStart => exact ⟨0, rfl, Nat.zero_le _, HS0.out⟩
  case round =>
    clear HS0
    obtain ⟨i, hx, hi, HS⟩ := hrel
    subst hx
    obtain ⟨ds, hd, hdl, hf, hbx, hall⟩ := HS.out
    have c1 := hbx.cell 0
    simp only [List.getElem?_cons_zero] at c1
    by_cases hin : i < n
    · have hi2 : (i : Int) < (n : Int) := by omega
      have hi0 : (0 : Int) ≤ (i : Int) := by omega
      have hwi : IntKind.i64.wrap (i : Int) = (i : Int) := by rw [IntKind.wrap_i64]; omega
      have hwi1 : IntKind.i64.wrap ((i : Int) + 1) = (i : Int) + 1 := by rw [IntKind.wrap_i64]; omega
      obtain ⟨va, hva, hsa⟩ := hall i hin
      have HD := Lib.hid hd
      have HDL := Lib.hid hdl
      have HF := Lib.hid hf
      have HBX := Lib.hid hbx
      have HALL := Lib.hid hall
      have HVA := Lib.hid hva
      have HSA := Lib.hid hsa
      clear hd hdl hf hbx hall hva hsa HS
      obtain ⟨pa, K, c2, rfl, hK⟩ := HSA.out.form
      go_wp2_with (fail)
      obtain ⟨wi, rfl⟩ : ∃ W, W = wr := ⟨_, rfl⟩
      go_loopw [3] (fun x wr => ∃ k : Nat, x = .int .i64 (k : Int) ∧ k ≤ K ∧ Hid (Sp R wi wr)) (fun x _ => K - (intOf x).toNat)
      case atStart => exact ⟨0, rfl, Nat.zero_le _, Sp.refl _ _⟩
      case round =>
        obtain ⟨k, hx, hk, HSP⟩ := hrel
        subst hx
        have c1 := (HSP.out.net _ _ HBX.out).cell 0
        simp only [List.getElem?_cons_zero] at c1
        have cN := ((HSP.out.node _ _ HD.out).cell (i * 5)).trans HVA.out
        by_cases hkK : k < K
        · have hk2 : (k : Int) < (K : Int) := by omega
          have hk0 : (0 : Int) ≤ (k : Int) := by omega
          have hwk : IntKind.i64.wrap (k : Int) = (k : Int) := by rw [IntKind.wrap_i64]; omega
          have hwk1 : IntKind.i64.wrap ((k : Int) + 1) = (k : Int) + 1 := by rw [IntKind.wrap_i64]; omega
          obtain ⟨ga, as1, rs, ws, rfl, hRa, ha1, hl1, q1, q2, q3, q4⟩ := (HSP.out.sa _ HSA.out).at hkK
          have HQ3 := Lib.hid q3
          clear ha1 hl1 q2 q3 q4
          go_wp2_with (fail)
          refine (writeFn HQ3.out).mono ?_
          rintro e w8 ⟨⟨v8, rfl⟩, hs8⟩
          have HS8 := Lib.hid (HSP.out.trans hs8)
          have c1 := (HS8.out.net _ _ HBX.out).cell 0
          simp only [List.getElem?_cons_zero] at c1
          have cN := ((HS8.out.node _ _ HD.out).cell (i * 5)).trans HVA.out
          obtain ⟨ga', as1, rs, ws, hga, _, ha1, hl1, q1, q2, q3, q4⟩ := (HS8.out.sa _ HSA.out).at hkK
          injection hga with hga
          injection hga with hga
          subst hga
          have HQ4 := Lib.hid q4
          clear ha1 hl1 q1 q3 q4 hs8 HSP HQ3
          go_wp2_with (fail)
          refine (writeFn HQ4.out).mono ?_
          rintro e w9 ⟨⟨v9, rfl⟩, hs9⟩
          have HS9 := Lib.hid (HS8.out.trans hs9)
          have c1 := (HS9.out.net _ _ HBX.out).cell 0
          simp only [List.getElem?_cons_zero] at c1
          have cN := ((HS9.out.node _ _ HD.out).cell (i * 5)).trans HVA.out
          obtain ⟨ga', as1, rs, ws, hga, _, ha1, hl1, q1, q2, q3, q4⟩ := (HS9.out.sa _ HSA.out).at hkK
          injection hga with hga
          injection hga with hga
          subst hga
          have HA1 := Lib.hid ha1
          have HL1 := Lib.hid hl1
          clear ha1 hl1 q1 q2 q3 q4 hs9 HS8 HQ4
          go_wp2_with (refine wpList_storeB rfl 55 _ _ rfl ga (k * 6) spoilA rfl rfl HA1.out HL1.out sz_Arc rfl ?_)
          refine Named.mk (fun w10 hw10 => ?_)
          have HS10 := Lib.hid (HS9.out.trans (Sp.arc hRa HA1.out HL1.out hw10))
          clear hw10 HA1 HL1 HS9 c1 cN
          go_wp2
          go_roundw
          case rel => exact ⟨k + 1, by simp, by omega, HS10.out⟩
          case measure => (simp [intOf]) <;> omega
        · have hk2 : ¬ (k : Int) < (K : Int) := by omega
          have HNH := Lib.hid (HSP.out.node _ _ HD.out)
          have hid5 : i * 5 + 5 ≤ ds.length := by have := HDL.out; omega
          go_wp2_with (refine wpList_storeB rfl 53 _ _ rfl g (i * 5) spoilN rfl rfl HNH.out hid5 sz_Node rfl ?_)
          refine Named.mk (fun w10 hw10 => ?_)
          have hf10 : Fr (fun q => q = g) wr w10 := by rw [hw10]; exact Fr.setRX g spoilN (i * 5) wr
          have HS10 : Hid (∃ ds, Holds w10 g 53 ds ∧ ds.length = cs.length ∧ Fr R w1 w10 ∧ Holds w10 b1 24 [.slice (some ⟨g, 0, none⟩) n c] ∧ ∀ i, i < n → ∃ va, ds[i * 5]? = some va ∧ SA R w10 va) := by
            refine ⟨_, HNH.out.stored hw10 hid5, ?_, (HF.out.trans HSP.out.fr fun _ _ h => h).trans hf10 fun q _ hq => by rw [hq]; exact hR, hf10.holds (HSP.out.net _ _ HBX.out) (by omega), fun j hj => ?_⟩
            · have := HDL.out
              simp [spoilN]
              omega
            · rw [show spoilN.length = 5 from rfl, spoilN_at hid5 (by have := HDL.out; omega)]
              by_cases e : j = i
              · rw [if_pos e]
                exact ⟨_, rfl, .inl rfl⟩
              · rw [if_neg e]
                obtain ⟨vb, h1, h2⟩ := HALL.out j hj
                refine ⟨vb, h1, ?_⟩
                have h3 := HSP.out.sa _ h2
                have ht : ∀ {g' : Nat} {t : TypeId} {es : List Value}, t ≠ 53 → Holds wr g' t es → Holds w10 g' t es := fun hne hh => hf10.holds hh (hh.ne_of_type HNH.out hne)
                have hsi : ∀ v, SI R wr v → SI R w10 v := fun v hv => hv.imp id fun ⟨g1, n, c, ds, h1, h2, h3, h4, h5, h6⟩ => ⟨g1, n, c, ds, h1, h2, h3, h4, ht (by decide) h5, h6⟩
                exact h3.imp id fun ⟨g1, n, c, es, h1, h2, h2', h3, h4, h5, h6⟩ => ⟨g1, n, c, es, h1, h2, h2', h3, ht (by decide) h4, h5, fun k hk => by
                  obtain ⟨rs, ws, q1, q2, q3, q4⟩ := h6 k hk
                  exact ⟨rs, ws, q1, q2, hsi _ q3, hsi _ q4⟩⟩
          clear hw10 hf10 HNH
          go_wp2
          go_roundw
          case rel => exact ⟨i + 1, by simp, by omega, HS10.out⟩
          case measure => (simp [intOf]) <;> omega
    · have hi2 : ¬ (i : Int) < (n : Int) := by omega
      have HF : Hid (Fr R w wr) := by
        have h3 := (Fr.of_below HB1.out R).trans hf fun _ _ h => h
        exact h3
      clear hf hall hd hbx HS
      go_wp2
      refine bodyPost_end (results_none rfl _ _ _) rfl ?_
      exact ⟨⟨_, rfl⟩, HF.out⟩
end Go.Proofs.Ytcedenoicmpjmaa
end
section
/- What lies in memory while a graph is copied whole: rows that may be written into. -/
namespace Go.Proofs.Ytcedenoicmpjmaa
open Go.RowKit
set_option linter.unusedVariables false
set_option linter.unusedSimpArgs false

/-- A node whose rows may be written into. -/
def NodeG (P : Nat → Prop) (w : World) (x : PNode) (c : List Value) : Prop := NodeF P w x c ∧ ∃ va, c[0]? = some va ∧ SA P w va
theorem NodeG.mono {P Q : Nat → Prop} {w : World} (hl : Wide P Q w) {a : PNode} {c : List Value} (h : NodeG P w a c) : NodeG Q w a c := ⟨h.1.mono hl, by
  obtain ⟨va, h1, h2⟩ := h.2
  exact ⟨va, h1, h2.mono hl⟩⟩
theorem oneNodeG : One NodeG 5 := ⟨fun h => oneNode.len h.1, fun h => oneNode.one h.1, fun hu h => ⟨oneNode.up hu h.1, by
  obtain ⟨va, h1, h2⟩ := h.2
  exact ⟨va, h1, h2.up hu⟩⟩⟩
structure OwnO (S b : Nat) (w2 : World) (l : PNet) (vt : Value) (wr : World) : Prop where
  below : Below S w2 wr
  ge : S ≤ w2.heap.size ∧ S ≤ b
  box : Holds wr b 24 [vt]
  row : ∃ fo, wr.ownsRow S 53 5 vt l.length fo ∧ LsF NodeG (fun k => S ≤ k ∧ k ≠ b ∧ vt.ownBlock ≠ some k) wr l fo
theorem OwnO.app {S b : Nat} {w2 wr W8 W9 W10 : World} {l : PNet} {y : PNode} {vt vt' : Value} {fo c : List Value} {o : Obj} (h : OwnO S b w2 l vt wr) (hr : wr.ownsRow S 53 5 vt l.length fo) (hfo : LsF NodeG (fun k => S ≤ k ∧ k ≠ b ∧ vt.ownBlock ≠ some k) wr l fo) (h8 : Below wr.heap.size wr W8)
    (hy : NodeG (fun k => wr.heap.size ≤ k) W8 y c) (hown : W9.ownsRow S 53 5 vt' (l.length + 1) (fo ++ c)) (hgr : (W8.alloc o).grownBy W9 vt.ownBlock) (hblk : vt'.ownBlock = vt.ownBlock ∨ vt'.ownBlock = some (W8.alloc o).heap.size) (hW : W10 = setR W9 b 0 [vt']) : OwnO S b w2 (l ++ [y]) vt' W10 := by
  have hg := h.ge
  have hbs := h.below.size
  have hvl := owns_lt hr
  have hvg := owns_ge hr
  have hbl := h.box.lt
  have hs8 := h8.size
  have hs9 : W8.heap.size ≤ (W8.alloc o).heap.size := by simp
  have hf5 : Fr (fun q => q = b) W9 W10 := by rw [hW]; exact Fr.setRX _ _ 0 _
  have hf9 : Fr (fun q => vt.ownBlock = some q) W8 W9 := ((Fr.refl _ W8).alloc o).grown hgr fun q hq _ => hq
  have hf : Fr (fun q => q = b ∨ vt.ownBlock = some q) W8 W10 := (hf9.mono fun _ _ h => .inr h).trans hf5 fun q _ hq => .inl hq
  have hb8 : Holds W8 b 24 [vt] := h.box.belowAll h8
  have hr8 := owns_below hr h8
  have hb9 : Holds W9 b 24 [vt] := hf9.holds hb8 (owns_ne_holds hr8 hb8 (by decide))
  have hv : ∀ k, k < W8.heap.size → vt.ownBlock ≠ some k → vt'.ownBlock ≠ some k := fun k hk hn he => by
    rcases hblk with hb | hb
    · rw [hb] at he; exact hn he
    · rw [hb] at he; injection he with he; omega
  refine ⟨(h.below.trans (h8.mono (by omega))).trans (hf.to_below (by omega) fun k hk hor => ?_), h.ge, hb9.stored hW (Nat.le_refl _), fo ++ c, ?_, LsF.append ?_ (LsF.sing ?_)⟩
  · rcases hor with rfl | hor
    · omega
    · have := hvg k hor; omega
  · rw [List.length_append]
    exact hf5.owns hown fun g hgg he => owns_ne_holds hown hb9 (by decide) (by rw [← he]; exact hgg)
  · have a0 := LsF.mono (fun _ _ => NodeG.mono (Wide.in_ (w := wr))) _ hfo
    have a1 := LsF.up (w' := W8) (fun _ _ => oneNodeG.up fun k hk hs => h8.block k hs) _ a0
    have a2 := LsF.up (w' := W10) (fun _ _ => oneNodeG.up fun k hk hs => hf.block k hs fun hor => hor.elim hk.1.2.1 hk.1.2.2) _ a1
    exact LsF.mono (fun _ _ => NodeG.mono fun k hk _ => ⟨hk.1.1, hk.1.2.1, hv k (by omega) hk.1.2.2⟩) _ a2
  · have hne : ∀ k, wr.heap.size ≤ k → k ≠ b ∧ vt.ownBlock ≠ some k := fun k hk => ⟨by omega, fun he => by have := hvl k he; omega⟩
    have a0 := NodeG.mono (Wide.in_ (w := W8)) hy
    have a2 := oneNodeG.up (w' := W10) (fun k hk hs => hf.block k hs fun hor => hor.elim (hne k hk.1).1 (hne k hk.1).2) a0
    exact NodeG.mono (fun k hk _ => ⟨by omega, (hne k hk.1).1, hv k hk.2 (hne k hk.1).2⟩) a2
/-- What list hands back. -/
def LsI (lo : Nat) (w : World) (l : List Int) (v : Value) : Prop := ∃ g, v = .slice (some ⟨g, 0, none⟩) l.length (l.length + 1) ∧ lo ≤ g ∧ Holds w g 3 (l.map intV ++ [.int .i64 77])
theorem LsI.row {lo : Nat} {w : World} {l : List Int} {v : Value} (h : LsI lo w l v) (hl : l.length ≤ 2000000) : RowL (fun k => lo ≤ k) w 1 v l.length (l.map intV) := by
  obtain ⟨g, rfl, h2, h3⟩ := h
  exact ⟨_, _, rfl, by omega, by omega, by simp, (fun h => by cases h), fun hn => ⟨g, 0, _, _, rfl, h2, h3.r, fun j hj => by rw [Nat.zero_add, List.getElem?_append_left (by simp; omega)]⟩⟩
theorem LsI.si {lo : Nat} {w : World} {l : List Int} {v : Value} (h : LsI lo w l v) (hl : l.length ≤ 2000000) : SI (fun k => lo ≤ k) w v := by
  obtain ⟨g, rfl, h2, h3⟩ := h
  exact .inr ⟨g, _, _, _, rfl, by omega, by omega, h2, h3, by simp⟩
theorem LsI.fr {lo gA : Nat} {w w' : World} {l : List Int} {v : Value} {cs : List Value} (h : LsI lo w l v) (hA : Holds w gA 55 cs) (hf : Fr (fun q => q = gA) w w') : LsI lo w' l v := by
  obtain ⟨g, rfl, h2, h3⟩ := h
  exact ⟨g, rfl, h2, hf.holds h3 (h3.ne_of_type hA (by decide))⟩
theorem LsI.below {lo : Nat} {w w' : World} {l : List Int} {v : Value} (h : LsI lo w l v) (hb : Below w.heap.size w w') : LsI lo w' l v := by
  obtain ⟨g, rfl, h2, h3⟩ := h
  exact ⟨g, rfl, h2, h3.belowAll hb⟩
/-- An arc's cells while they are copied. -/
def EntO (lo : Nat) (w : World) (a : PArc) (done : Prop) (e : List Value) : Prop := ∃ rs ws, e = arcC a rs ws ∧ (done → LsI lo w a.reads rs ∧ LsI lo w a.writes ws)
structure InO (lo gA : Nat) (l : List PArc) (w9 : World) (k : Nat) (cs : List Value) (wr : World) : Prop where
  fr : Fr (fun q => q = gA) w9 wr
  box : Holds wr gA 55 cs
  len : cs.length = (l.length + 1) * 6
  ent : ∀ (j : Nat) (h : j < l.length), EntO lo wr l[j] (j < k) (cut 6 j cs)
theorem EntO.below {lo : Nat} {w w' : World} {a : PArc} {d : Prop} {e : List Value} (h : EntO lo w a d e) (hb : Below w.heap.size w w') : EntO lo w' a d e := by
  obtain ⟨rs, ws, h1, h2⟩ := h
  exact ⟨rs, ws, h1, fun hd => ⟨(h2 hd).1.below hb, (h2 hd).2.below hb⟩⟩
theorem InO.below {lo gA : Nat} {l : List PArc} {w9 wr w' : World} {k : Nat} {cs : List Value} (h : InO lo gA l w9 k cs wr) (hb : Below wr.heap.size wr w') : InO lo gA l w9 k cs w' :=
  ⟨h.fr.trans (Fr.of_below hb _) fun _ _ h => h, h.box.belowAll hb, h.len, fun j hj => (h.ent j hj).below hb⟩
theorem InO.start {lo gA : Nat} {l : List PArc} {w9 : World} {P : Nat → Prop} {w : World} {f cur : List Value} (hf : LsF ArcF P w l f) (hl : f.length = l.length * 6) (hc : cur.length = (l.length + 1) * 6) (hb : Holds w9 gA 55 (f ++ cur.drop f.length)) : InO lo gA l w9 0 (f ++ cur.drop f.length) w9 := by
  refine ⟨Fr.refl _ _, hb, by simp; omega, fun j hj => ?_⟩
  have h1 := LsF.cut_at oneArc hf j hj
  have h2 : cut 6 j (f ++ cur.drop f.length) = cut 6 j f := by
    rw [← cut_take (M := l.length) hj, List.take_append_of_le_length (by omega), List.take_of_length_le (by omega)]
  rw [h2]
  obtain ⟨rs, ws, h3, _⟩ := h1
  exact ⟨rs, ws, h3, fun h => absurd h (Nat.not_lt_zero _)⟩
/-- Both rows of arc k are copied. -/
theorem InO.step {lo gA k : Nat} {l : List PArc} {w9 wr w' : World} {cs : List Value} {rs ws : Value} (h : InO lo gA l w9 k cs wr) (hk : k < l.length) (hf : Fr (fun q => q = gA) wr w') (hb : Holds w' gA 55 ((cs.set (k * 6 + 3) rs).set (k * 6 + 4) ws)) (hr : LsI lo w' l[k].reads rs) (hw : LsI lo w' l[k].writes ws) :
    InO lo gA l w9 (k + 1) ((cs.set (k * 6 + 3) rs).set (k * 6 + 4) ws) w' := by
  refine ⟨h.fr.trans hf fun _ _ h => h, hb, by simpa using h.len, fun j hj => ?_⟩
  by_cases e : j = k
  · subst e
    obtain ⟨r0, s0, h1, _⟩ := h.ent j hj
    refine ⟨rs, ws, ?_, fun _ => ⟨hr, hw⟩⟩
    rw [cut_self (by omega), cut_self (by omega), h1]
    rfl
  · obtain ⟨r0, s0, h1, h2⟩ := h.ent j hj
    refine ⟨r0, s0, ?_, fun hd => ?_⟩
    · rw [cut_set (by omega) e, cut_set (by omega) e, h1]
    · have h3 := h2 (by omega)
      exact ⟨h3.1.fr h.box hf, h3.2.fr h.box hf⟩
/-- All are copied: the node with its arcs. -/
theorem InO.done {lo gA b5 : Nat} {x : PNode} {w9 wr W8 : World} {cs : List Value} (h : InO lo gA x.arcs w9 x.arcs.length cs wr) (hA : lo ≤ gA) (hs : ∀ a ∈ x.arcs, a.reads.length ≤ 2000000 ∧ a.writes.length ≤ 2000000) (hn : x.arcs.length ≤ 2000000) {cs' : List Value} (hcs : cs'.take (x.arcs.length * 6) = cs.take (x.arcs.length * 6)) (hl : cs'.length = cs.length)
    (hb : Holds W8 gA 55 cs') (hf : Fr (fun q => q = gA ∨ q = b5) wr W8) (h5 : ∃ t ds, t ≠ 3 ∧ Holds wr b5 t ds) : NodeG (fun k => lo ≤ k) W8 x (nodeC (.slice (some ⟨gA, 0, none⟩) x.arcs.length (x.arcs.length + 1)) x) := by
  have hlen := h.len
  obtain ⟨t5, ds5, ht5, hd5⟩ := h5
  have hup : ∀ {l : List Int} {v : Value}, LsI lo wr l v → LsI lo W8 l v := fun ⟨g, e, h2, h3⟩ => ⟨g, e, h2, hf.holds h3 fun hor => hor.elim (h3.ne_of_type h.box (by decide)) (h3.ne_of_type hd5 (Ne.symm ht5))⟩
  have hcut : ∀ j, j < x.arcs.length → cut 6 j cs' = cut 6 j cs := fun j hj => by rw [← cut_take (M := x.arcs.length) hj, hcs, cut_take hj]
  have hent : ∀ (j : Nat) (hj : j < x.arcs.length), ∃ rs ws, cut 6 j cs' = arcC x.arcs[j] rs ws ∧ LsI lo W8 x.arcs[j].reads rs ∧ LsI lo W8 x.arcs[j].writes ws := fun j hj => by
    obtain ⟨rs, ws, h1, h2⟩ := h.ent j hj
    exact ⟨rs, ws, (hcut j hj).trans h1, hup (h2 hj).1, hup (h2 hj).2⟩
  refine ⟨⟨_, rfl, cs'.take (x.arcs.length * 6), ⟨_, _, rfl, by omega, by omega, by rw [List.length_take]; omega, (fun h => by cases h), fun _ => ⟨gA, 0, cs', _, rfl, hA, hb.r, fun j hj => by rw [Nat.zero_add, List.getElem?_take_of_lt hj]⟩⟩, LsF.of_cut _ _ fun j hj => ?_⟩, _, rfl, .inr ⟨gA, _, _, cs', rfl, by omega, by omega, hA, hb, by omega, fun j hj => ?_⟩⟩
  · obtain ⟨rs, ws, h1, h2, h3⟩ := hent j hj
    have := hs _ (List.getElem_mem hj)
    exact ⟨rs, ws, h1, h2.row this.1, h3.row this.2⟩
  · obtain ⟨rs, ws, h1, h2, h3⟩ := hent j hj
    have := hs _ (List.getElem_mem hj)
    refine ⟨rs, ws, ?_, ?_, h2.si this.1, h3.si this.2⟩
    · rw [← cut_get (m := 6) (by omega), h1]; rfl
    · rw [← cut_get (m := 6) (by omega), h1]; rfl
end Go.Proofs.Ytcedenoicmpjmaa
end
