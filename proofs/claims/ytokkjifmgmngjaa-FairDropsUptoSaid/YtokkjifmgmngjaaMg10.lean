/- Gxs, Fkn, joined. -/
import Derived.Test.YtokkjifmgmngjaaGew
import Derived.Test.YtokkjifmgmngjaaMg3
import Derived.Test.YtokkjifmgmngjaaFon
section
/- The statements' explores at any system. -/
namespace Go.Proofs.Ytokkjifmgmngjaa.G
open Go.RowKit Go.Maps
set_option linter.unusedVariables false
set_option linter.unusedSimpArgs false

theorem stepA_of {most : Nat} {st st1 : List ByteArray} {a : PMove} {b : PArc} (hs : stepA most st a = some (st1, b)) : b.reads = a.reads ∧ b.writes = a.writes := by
  unfold stepA at hs
  split at hs
  · split at hs
    · injection hs with hs; injection hs with _ hs; subst hs; exact ⟨rfl, rfl⟩
    · split at hs
      · cases hs
      · injection hs with hs; injection hs with _ hs; subst hs; exact ⟨rfl, rfl⟩
  · injection hs with hs; injection hs with _ hs; subst hs; exact ⟨rfl, rfl⟩
theorem stepAs_of {most : Nat} : ∀ {l : List PMove} {c : Nat} {st st1 : List ByteArray} {bs : List PArc}, stepAs most c st l = some (st1, bs) → ∀ b ∈ bs, ∃ a ∈ l, b.reads = a.reads ∧ b.writes = a.writes
  | [], c, st, st1, bs, hs => by
    rw [stepAs] at hs; injection hs with hs; injection hs with hs hs'; subst hs'; intro b hb; cases hb
  | a :: l, c, st, st1, bs, hs => by
    rw [stepAs] at hs
    split at hs
    · cases hs
    · rename_i st' b e1
      by_cases hc : 262144 < c + 1
      · rw [if_pos hc] at hs; cases hs
      · rw [if_neg hc] at hs
        split at hs
        · cases hs
        · rename_i st2 bs2 e2
          injection hs with hs; injection hs with hs hs'; subst hs'
          intro x hx
          rcases List.mem_cons.1 hx with rfl | hx
          · exact ⟨a, by simp, stepA_of e1⟩
          · obtain ⟨a', h1, h2⟩ := stepAs_of e2 x hx
            exact ⟨a', List.mem_cons_of_mem _ h1, h2⟩
theorem exF_small {S : Sys} (hS : SmallS S) {most : Nat} : ∀ (fu i c : Nat) {st st2 : List ByteArray} {g : PNet}, Met most st → i ≤ st.length → c ≤ 262144 → exF S most fu i c st = some (st2, g) →
    Met most st2 ∧ i + g.length = st2.length ∧ c + total g ≤ 262144 ∧ ∀ x ∈ g, ∀ a ∈ x.arcs, a.reads.length ≤ 2000000 ∧ a.writes.length ≤ 2000000
  | 0, i, c, st, st2, g, hm, hi, hc, h => by rw [exF] at h; cases h
  | fu + 1, i, c, st, st2, g, hm, hi, hc, h => by
    rw [exF] at h
    split at h
    · rename_i e
      injection h with h; injection h with h h'; subst h; subst h'
      have := List.getElem?_eq_none_iff.1 e
      exact ⟨hm, by simp; omega, by simpa [total] using hc, by simp⟩
    · rename_i s e
      obtain ⟨hl, hs⟩ := List.getElem?_eq_some_iff.1 e
      have hsz : s.size ≤ 1048576 := by rw [← hs]; exact hm.size _ (List.getElem_mem hl)
      split at h
      · cases h
      · rename_i st1 bs e1
        obtain ⟨h1, h2, h3, h4⟩ := stepAs_met hm (fun a ha => hS.dsts s hsz a ha) e1
        have h5 := h2.length_le
        split at h
        · cases h
        · rename_i st3 out e2
          injection h with h; injection h with h h'; subst h; subst h'
          obtain ⟨q1, q2, q3, q4⟩ := exF_small hS fu (i + 1) (c + (S.next s).length) h1 (by omega) (h4 hc) e2
          refine ⟨q1, by rw [List.length_cons]; omega, by simp only [total, List.map_cons, List.sum_cons] at q3 ⊢; omega, fun x hx a ha => ?_⟩
          rcases List.mem_cons.1 hx with rfl | hx
          · obtain ⟨a', k1, k2, k3⟩ := stepAs_of e1 a ha
            rw [k2, k3]
            exact hS.reads s hsz a' k1
          · exact q4 x hx a ha
theorem exF_fit {S : Sys} (hS : SmallS S) {most : Nat} (h1 : 1 ≤ most) (h2 : most ≤ 20000) {st : List ByteArray} {g : PNet} (h : exF S most 20001 0 0 [S.beg] = some (st, g)) : Small g ∧ g.length = st.length ∧ st.length ≤ 20000 := by
  obtain ⟨q1, q2, q3, q4⟩ := exF_small hS 20001 0 0 (by refine ⟨by simp, by simpa using hS.beg, by simp; omega⟩) (Nat.zero_le _) (Nat.zero_le _) h
  have := q1.len
  refine ⟨⟨by omega, by omega, fun i hi j hj => q4 _ (List.getElem_mem hi) _ (List.getElem_mem hj)⟩, by omega, by omega⟩
/-- Explore refuses. -/
def BadPost (w : World) (e : Ending) (w' : World) : Prop := e = .returned (.tuple #[.agg #[.slice none 0 0], .slice none 0 0, .int .i64 1]) ∧ Below w.heap.size w w'
end Go.Proofs.Ytokkjifmgmngjaa.G
end
section
/- The walk of the statements' known: graphs with copies, explored. (printed by mkfkn.py) -/
namespace Go.Proofs.Ytokkjifmgmngjaa.G
open Go.RowKit Go.Maps
set_option linter.unusedVariables false
set_option linter.unusedSimpArgs false

theorem tiny_graph {N : PNet} (hN : chk N = true) : TinyS (gsys N) := by
  have hto : ∀ x ∈ N, ∀ a ∈ x.arcs, 0 ≤ a.to ∧ a.to.toNat ≤ 20000 := fun x hx a ha => by
    have h3 := hN
    unfold chk at h3
    simp only [Bool.and_eq_true, decide_eq_true_eq] at h3
    have h4 := chkArc_to (List.all_eq_true.1 (List.all_eq_true.1 h3.1.2 x hx) a ha)
    omega
  refine ⟨?_, fun s _ m hm => ?_⟩
  · have := keyS_size (n := 0) (by omega)
    show (keyS 0).size ≤ _
    omega
  · obtain ⟨⟨a, k⟩, hk, rfl⟩ := List.mem_map.1 hm
    have ha := List.fst_mem_of_mem_zipIdx hk
    cases h : nodeOf N s.data.toList with
    | none => rw [h] at ha; cases ha
    | some x =>
      obtain ⟨i, hi, rfl⟩ := nodeOf_mem h
      rw [h] at ha
      show (toS a).size ≤ _
      unfold toS
      split
      · have := keyS_size (hto _ (List.getElem_mem hi) a ha).2
        exact Nat.le_trans this (by omega)
      · show (0 : Nat) ≤ _
        omega
set_option maxHeartbeats 4000000 in
set_option maxRecDepth 100000 in
theorem knownFn18 (w : World) : Calls Try.prog 6 #[] w (Yes w) := by
  go_enter Try.func6, Try.ntmps6
  go_wp2
  go_loopw [1] (fun y wr => ∃ k : Nat, y = .int .i64 (k : Int) ∧ k ≤ 2 ∧ Hid (Below w.heap.size w wr)) (fun y _ => (10 - intOf y).toNat)
  case atStart => exact ⟨0, rfl, Nat.zero_le _, Below.refl _ _⟩
  case round =>
    obtain ⟨k, rfl, hk, HBR⟩ := hrel
    have hk3 : k = 0 ∨ k = 1 ∨ k = 2 := by omega
    rcases hk3 with rfl | rfl | rfl
    · go_wp2_with (fail)
      refine (oneFn false wr).mono ?_
      rintro e w1 ⟨hb1, v1, rfl, hv1⟩
      have HB1 : Hid (Below w.heap.size w w1) := HBR.out.trans (hb1.mono HBR.out.size)
      have HV1 := Lib.hid hv1
      clear hb1 hv1
      go_wp2_with (fail)
      refine (ofFn HV1.out (one_small false)).mono ?_
      rintro e w2 ⟨hb2, h2⟩
      rw [if_pos (one_chk false)] at h2
      obtain ⟨v2, rfl, hv2⟩ := h2
      have HB2 : Hid (Below w.heap.size w w2) := HB1.out.trans (hb2.mono HB1.out.size)
      have HOK := Lib.hid (copies_ok (K := 2) (graph_ok hv2 (one_chk false) (one_small false)) (tiny_graph (one_chk false)) (by omega))
      clear hb2 hv2 HB1 HV1
      go_wp2_with (fail)
      refine (fairOfFn (v := v2) (k := 2) (by omega) w2).mono ?_
      rintro e w3 ⟨hb3, rfl⟩
      have HB3 : Hid (Below w.heap.size w w3) := HB2.out.trans (hb3.mono HB2.out.size)
      have HOK3 := Lib.hid (HOK.out.at hb3)
      have HEX := Lib.hid (one_cyc false)
      clear hb3 HOK HB2
      go_wp2_with (fail)
      refine (explG (most := 20) HOK3.out (by omega) (by omega)).mono ?_
      rintro e w4 ⟨hb4, h4⟩
      obtain ⟨st, g, hex, hg0, hfit, hcy⟩ := HEX.out
      have hsg := (exF_fit HOK3.out.small (by omega) (by omega) hex).1
      rw [hex] at h4
      obtain ⟨vn, vs, rfl, hvn, hvs⟩ := h4
      obtain ⟨as0, cs0, rfl, _⟩ := hvs.form
      have hvn2 : ∃ a c, vn = .slice a g.length c := by obtain ⟨f, h1, _⟩ := hvn; obtain ⟨a, c, h2, _⟩ := h1.form; exact ⟨a, c, h2⟩
      obtain ⟨an, cn, rfl⟩ := hvn2
      obtain ⟨w5, hw5⟩ : ∃ W, W = w4.alloc (.cells #[.slice an g.length cn] 24) := ⟨_, rfl⟩
      have hb5 : Below w4.heap.size w4 w5 := by rw [hw5]; exact (Below.refl _ _).alloc (Nat.le_refl _) _
      have hc5 : w5.cell? ⟨w4.heap.size, 0, none⟩ = some (.slice an g.length cn) := by rw [hw5]; exact (Holds.new w4 24 #[.slice an g.length cn]).cell 0
      have HB5 : Hid (Below w.heap.size w w5) := HB3.out.trans ((hb4.trans (hb5.mono hb4.size)).mono HB3.out.size)
      have HCY := Lib.hid (cycleFn (hvn.up (Keep.below hb5)) hsg hfit hg0)
      rw [hcy] at HCY
      clear hb4 hb5 hvn hvs hex hg0 hfit hcy hsg HEX HOK3 HB3 HBR
      go_wp2_with (fail)
      rw [← hw5]
      clear hw5
      refine HCY.out.mono ?_
      rintro e w6 ⟨rfl, hb6⟩
      have HB6 : Hid (Below w.heap.size w w6) := HB5.out.trans (hb6.mono HB5.out.size)
      clear hb6 HCY HB5 hc5
      go_wp2
      exact ⟨⟨0 + 1, rfl, by omega, HB6⟩, by simp [intOf]⟩
    · go_wp2_with (fail)
      refine (oneFn true wr).mono ?_
      rintro e w1 ⟨hb1, v1, rfl, hv1⟩
      have HB1 : Hid (Below w.heap.size w w1) := HBR.out.trans (hb1.mono HBR.out.size)
      have HV1 := Lib.hid hv1
      clear hb1 hv1
      go_wp2_with (fail)
      refine (ofFn HV1.out (one_small true)).mono ?_
      rintro e w2 ⟨hb2, h2⟩
      rw [if_pos (one_chk true)] at h2
      obtain ⟨v2, rfl, hv2⟩ := h2
      have HB2 : Hid (Below w.heap.size w w2) := HB1.out.trans (hb2.mono HB1.out.size)
      have HOK := Lib.hid (copies_ok (K := 2) (graph_ok hv2 (one_chk true) (one_small true)) (tiny_graph (one_chk true)) (by omega))
      clear hb2 hv2 HB1 HV1
      go_wp2_with (fail)
      refine (fairOfFn (v := v2) (k := 2) (by omega) w2).mono ?_
      rintro e w3 ⟨hb3, rfl⟩
      have HB3 : Hid (Below w.heap.size w w3) := HB2.out.trans (hb3.mono HB2.out.size)
      have HOK3 := Lib.hid (HOK.out.at hb3)
      have HEX := Lib.hid (one_cyc true)
      clear hb3 HOK HB2
      go_wp2_with (fail)
      refine (explG (most := 20) HOK3.out (by omega) (by omega)).mono ?_
      rintro e w4 ⟨hb4, h4⟩
      obtain ⟨st, g, hex, hg0, hfit, hcy⟩ := HEX.out
      have hsg := (exF_fit HOK3.out.small (by omega) (by omega) hex).1
      rw [hex] at h4
      obtain ⟨vn, vs, rfl, hvn, hvs⟩ := h4
      obtain ⟨as0, cs0, rfl, _⟩ := hvs.form
      have hvn2 : ∃ a c, vn = .slice a g.length c := by obtain ⟨f, h1, _⟩ := hvn; obtain ⟨a, c, h2, _⟩ := h1.form; exact ⟨a, c, h2⟩
      obtain ⟨an, cn, rfl⟩ := hvn2
      obtain ⟨w5, hw5⟩ : ∃ W, W = w4.alloc (.cells #[.slice an g.length cn] 24) := ⟨_, rfl⟩
      have hb5 : Below w4.heap.size w4 w5 := by rw [hw5]; exact (Below.refl _ _).alloc (Nat.le_refl _) _
      have hc5 : w5.cell? ⟨w4.heap.size, 0, none⟩ = some (.slice an g.length cn) := by rw [hw5]; exact (Holds.new w4 24 #[.slice an g.length cn]).cell 0
      have HB5 : Hid (Below w.heap.size w w5) := HB3.out.trans ((hb4.trans (hb5.mono hb4.size)).mono HB3.out.size)
      have HCY := Lib.hid (cycleFn (hvn.up (Keep.below hb5)) hsg hfit hg0)
      rw [hcy] at HCY
      clear hb4 hb5 hvn hvs hex hg0 hfit hcy hsg HEX HOK3 HB3 HBR
      go_wp2_with (fail)
      rw [← hw5]
      clear hw5
      refine HCY.out.mono ?_
      rintro e w6 ⟨rfl, hb6⟩
      have HB6 : Hid (Below w.heap.size w w6) := HB5.out.trans (hb6.mono HB5.out.size)
      clear hb6 HCY HB5 hc5
      go_wp2
      exact ⟨⟨1 + 1, rfl, by omega, HB6⟩, by simp [intOf]⟩
    · go_wp2
      go_ret
      exact ⟨rfl, HBR.out⟩
end Go.Proofs.Ytokkjifmgmngjaa.G
end
