/- Trn, Exp, Two, Nets, Emp, Known, Agn, joined. -/
import Derived.Test.YtpednhcfkjjcpaaMov
import Derived.Test.YtpednhcfkjjcpaaMg4
import Derived.TacticsInMore
import Derived.Carry
import Derived.Shelf.Abstract
import Derived.Test.YtpednhcfkjjcpaaNode
import Derived.Test.YtpednhcfkjjcpaaChk
import Derived.Deep.RegionHeld3
section
/- Turned arcs, plain: what is reached is the same. -/
namespace Go.Proofs.Ytpednhcfkjjcpaa
open Go.RowKit
set_option linter.unusedVariables false
set_option linter.unusedSimpArgs false

def revX (x : PNode) : PNode := { x with arcs := x.arcs.reverse }
def lastN : PNode := ⟨[], 77, false, false, false⟩
def turnN (N : PNet) : PNet := N.map revX ++ [lastN]
theorem stepA_mem {most : Nat} {st st1 : List Nat} {a b : PArc} (h : stepA most st a = some (st1, b)) : st <+: st1 ∧ (a.bad = 0 → a.to.toNat ∈ st1) ∧ ∀ s ∈ st1, s ∈ st ∨ (a.bad = 0 ∧ s = a.to.toNat) := by
  unfold stepA at h
  split at h
  · rename_i hb
    split at h
    · rename_i hin
      injection h with h; injection h with h _; subst h
      exact ⟨List.prefix_refl _, fun _ => hin, fun s hs => .inl hs⟩
    · split at h
      · cases h
      · injection h with h; injection h with h _; subst h
        exact ⟨List.prefix_append _ _, fun _ => by simp, fun s hs => (List.mem_append.1 hs).imp id fun h => ⟨hb, by simpa using h⟩⟩
  · rename_i hb
    injection h with h; injection h with h _; subst h
    exact ⟨List.prefix_refl _, fun h0 => absurd h0 hb, fun s hs => .inl hs⟩
theorem stepAs_mem {most : Nat} : ∀ {l : List PArc} {st st1 : List Nat} {bs : List PArc}, stepAs most st l = some (st1, bs) → st <+: st1 ∧ (∀ a ∈ l, a.bad = 0 → a.to.toNat ∈ st1) ∧ (∀ s ∈ st1, s ∈ st ∨ ∃ a ∈ l, a.bad = 0 ∧ s = a.to.toNat) ∧ bs.length = l.length
  | [], st, st1, bs, h => by
    rw [stepAs] at h; injection h with h; injection h with h h'; subst h; subst h'
    exact ⟨List.prefix_refl _, (fun a ha => by cases ha), fun s hs => .inl hs, rfl⟩
  | a :: l, st, st1, bs, h => by
    rw [stepAs] at h
    split at h
    · cases h
    · rename_i st' b e1
      split at h
      · cases h
      · rename_i st2 bs2 e2
        injection h with h; injection h with h h'; subst h; subst h'
        obtain ⟨p1, p2, p3⟩ := stepA_mem e1
        obtain ⟨q1, q2, q3, q4⟩ := stepAs_mem e2
        refine ⟨p1.trans q1, fun c hc hb => ?_, fun s hs => ?_, by simp [q4]⟩
        · rcases List.mem_cons.1 hc with rfl | hc
          · exact q1.subset (p2 hb)
          · exact q2 c hc hb
        · rcases q3 s hs with h1 | ⟨c, hc, hb, he⟩
          · rcases p3 s h1 with h2 | ⟨hb, he⟩
            · exact .inl h2
            · exact .inr ⟨a, by simp, hb, he⟩
          · exact .inr ⟨c, by simp [hc], hb, he⟩
/-- What is reached from what has been met: closed; nothing beyond; and what is told of each. -/
theorem exF_reach {N : PNet} {most : Nat} : ∀ {fu i : Nat} {st st1 : List Nat} {out : PNet}, exF N most fu i st = some (st1, out) → i ≤ st.length →
    st <+: st1 ∧ (∀ (j : Nat) (hj : j < st1.length), i ≤ j → ∃ x, N[st1[j]]? = some x ∧ (∀ a ∈ x.arcs, a.bad = 0 → a.to.toNat ∈ st1) ∧ ∃ y, out[j - i]? = some y ∧ y.props = x.props ∧ y.arcs.length = x.arcs.length) ∧
    ∀ Q : Nat → Prop, (∀ s ∈ st, Q s) → (∀ s x, Q s → N[s]? = some x → ∀ a ∈ x.arcs, a.bad = 0 → Q a.to.toNat) → ∀ s ∈ st1, Q s
  | 0, i, st, st1, out, h, hi => by rw [exF] at h; cases h
  | fu + 1, i, st, st1, out, h, hi => by
    rw [exF] at h
    split at h
    · rename_i h0
      injection h with h; injection h with h h'; subst h; subst h'
      have := List.getElem?_eq_none_iff.1 h0
      exact ⟨List.prefix_refl _, fun j hj hij => by omega, fun Q hQ _ => hQ⟩
    · rename_i s h0
      have hil := (List.getElem?_eq_some_iff.1 h0).1
      have hs0 := (List.getElem?_eq_some_iff.1 h0).2
      split at h
      · cases h
      · rename_i x hx
        split at h
        · cases h
        · rename_i st' bs h1
          split at h
          · cases h
          · rename_i st2 out2 h2
            injection h with h; injection h with h h'; subst h; subst h'
            obtain ⟨p1, p2, p3, p4⟩ := stepAs_mem h1
            have hl := p1.length_le
            obtain ⟨q1, q2, q3⟩ := exF_reach h2 (by omega)
            refine ⟨p1.trans q1, fun j hj hij => ?_, fun Q hQ hc => ?_⟩
            · by_cases e : j = i
              · subst e
                have hp := p1.trans q1
                have he : st2[j] = s := by rw [← hs0]; exact (hp.getElem hil).symm
                refine ⟨x, by rw [he]; exact hx, fun a ha hb => q1.subset (p2 a ha hb), { x with arcs := bs }, by rw [Nat.sub_self]; rfl, rfl, p4⟩
              · obtain ⟨y, h3, h4, z, h5, h6⟩ := q2 j hj (by omega)
                refine ⟨y, h3, h4, z, ?_, h6⟩
                rw [show j - i = (j - (i + 1)) + 1 by omega, List.getElem?_cons_succ]
                exact h5
            · refine q3 Q (fun t ht => ?_) hc
              rcases p3 t ht with h3 | ⟨a, ha, hb, rfl⟩
              · exact hQ t h3
              · exact hc s x (hQ s (by rw [← hs0]; exact List.getElem_mem _)) hx a ha hb
theorem turn_len (N : PNet) : (turnN N).length = N.length + 1 := by simp [turnN]
theorem turn_at {N : PNet} {s : Nat} (h : s < N.length) : (turnN N)[s]? = some (revX N[s]) := by
  unfold turnN
  rw [List.getElem?_append_left (by simpa using h), List.getElem?_map, List.getElem?_eq_getElem h]
  rfl
theorem turn_back {N : PNet} {s : Nat} {x : PNode} (h : (turnN N)[s]? = some x) (hs : s < N.length) : ∃ y, N[s]? = some y ∧ x = revX y := by
  rw [turn_at hs] at h
  injection h with h
  exact ⟨_, List.getElem?_eq_getElem hs, h.symm⟩
theorem total_app : ∀ (a b : PNet), total (a ++ b) = total a + total b
  | [], b => by simp [total]
  | x :: a, b => by
    have := total_app a b
    simp only [total, List.cons_append, List.map_cons, List.sum_cons] at this ⊢
    omega
theorem total_rev : ∀ (a : PNet), total (a.map revX) = total a
  | [] => rfl
  | x :: a => by
    have := total_rev a
    simp only [total, List.map_cons, List.sum_cons] at this ⊢
    rw [this]
    simp [revX]
theorem turn_chk {N : PNet} (hN : chk N = true) (hl : N.length < 20000) : chk (turnN N) = true := by
  unfold chk at hN ⊢
  simp only [Bool.and_eq_true, decide_eq_true_eq] at hN ⊢
  obtain ⟨⟨⟨n1, n2⟩, n3⟩, n4⟩ := hN
  rw [turn_len]
  refine ⟨⟨⟨by omega, by omega⟩, List.all_eq_true.2 fun x hx => List.all_eq_true.2 fun a ha => ?_⟩, ?_⟩
  · unfold turnN at hx
    rcases List.mem_append.1 hx with hx | hx
    · obtain ⟨y, hy, rfl⟩ := List.mem_map.1 hx
      have h1 := List.all_eq_true.1 (List.all_eq_true.1 n3 y hy) a (by simpa [revX] using ha)
      exact chkArc_mono h1 (by omega)
    · rw [List.mem_singleton] at hx
      subst hx
      cases ha
  · unfold turnN
    rw [total_app, total_rev]
    simp only [total, List.map_cons, List.map_nil, List.sum_cons, List.sum_nil, lastN, List.length_nil] at n4 ⊢
    omega
theorem ex_ok {N : PNet} (hN : chk N = true) : ∃ st g, exF N 20000 20001 0 [0] = some (st, g) ∧ Met N.length st ∧ g.length = st.length := by
  obtain ⟨st, g, h1, h2, h3, h4, h5, h6⟩ := again hN
  exact ⟨st, g, h1, h4, h2.symm⟩
theorem nodup_sub : ∀ (a b : List Nat), a.Nodup → (∀ x ∈ a, x ∈ b) → a.length ≤ b.length
  | [], b, _, _ => Nat.zero_le _
  | x :: a, b, hd, h => by
    obtain ⟨h1, h2⟩ := List.nodup_cons.1 hd
    have hx := h x (by simp)
    have h3 := nodup_sub a (b.erase x) h2 fun y hy => (List.mem_erase_of_ne (by rintro rfl; exact h1 hy)).2 (h y (by simp [hy]))
    rw [List.length_erase_of_mem hx] at h3
    have := List.length_pos_of_mem hx
    simp only [List.length_cons]
    omega
/-- The law of turned arcs. -/
theorem turned {N : PNet} (hN : chk N = true) (hl : N.length < 20000) : ∃ st g st' g', exF N 20000 20001 0 [0] = some (st, g) ∧ exF (turnN N) 20000 20001 0 [0] = some (st', g') ∧ 0 < st.length ∧ st'.length = st.length ∧ g.length = st.length ∧ g'.length = st.length ∧ (∀ s ∈ st, s ≤ 20000) ∧ (∀ s ∈ st', s ≤ 20000) ∧
    ∀ (j : Nat) (hj : j < st.length), ∃ m, m < st.length ∧ st'[m]? = some st[j] ∧ ∃ x y, g[j]? = some x ∧ g'[m]? = some y ∧ x.arcs.length = y.arcs.length ∧ x.props = y.props := by
  obtain ⟨st, g, h1, hm, hg⟩ := ex_ok hN
  obtain ⟨st', g', h1', hm', hg'⟩ := ex_ok (turn_chk hN hl)
  rw [turn_len] at hm'
  obtain ⟨a1, a2, a3⟩ := exF_reach h1 (by simp)
  obtain ⟨b1, b2, b3⟩ := exF_reach h1' (by simp)
  have h0 : ∀ s ∈ st, s ∈ st' := a3 (· ∈ st') (fun s hs => b1.subset hs) fun s x hs hx a ha hb => by
    obtain ⟨j, hj, rfl⟩ := List.getElem_of_mem hs
    obtain ⟨y, h3, h4, _⟩ := b2 j hj (by omega)
    have hlt := (List.getElem?_eq_some_iff.1 hx).1
    rw [turn_at hlt] at h3
    injection h3 with h3
    subst h3
    have hxe := (List.getElem?_eq_some_iff.1 hx).2
    exact h4 a (by simp only [revX, List.mem_reverse]; rw [hxe]; exact ha) hb
  have h0' : ∀ s ∈ st', s ∈ st := b3 (· ∈ st) (fun s hs => a1.subset hs) fun s x hs hx a ha hb => by
    obtain ⟨y, hy, rfl⟩ := turn_back hx (hm.lt s hs)
    obtain ⟨j, hj, rfl⟩ := List.getElem_of_mem hs
    obtain ⟨z, h3, h4, _⟩ := a2 j hj (by omega)
    rw [hy] at h3
    injection h3 with h3
    subst h3
    exact h4 a (by simpa [revX] using ha) hb
  have e1 : st.length ≤ st'.length := nodup_sub _ _ hm.nodup h0
  have e2 : st'.length ≤ st.length := nodup_sub _ _ hm'.nodup h0'
  have hN2 := hN
  unfold chk at hN2
  simp only [Bool.and_eq_true, decide_eq_true_eq] at hN2
  refine ⟨st, g, st', g', h1, h1', hm.pos, by omega, hg, by omega, fun s hs => by have := hm.lt s hs; omega, fun s hs => by have := hm'.lt s hs; omega, fun j hj => ?_⟩
  obtain ⟨m, hmm, he⟩ := List.getElem_of_mem (h0 _ (List.getElem_mem hj))
  obtain ⟨x, c1, _, y, c2, c3, c4⟩ := a2 j hj (by omega)
  obtain ⟨x', d1, _, y', d2, d3, d4⟩ := b2 m hmm (by omega)
  rw [he] at d1
  obtain ⟨z, hz, rfl⟩ := turn_back d1 (hm.lt _ (List.getElem_mem hj))
  rw [c1] at hz
  injection hz with hz
  subst hz
  rw [Nat.sub_zero] at c2 d2
  exact ⟨m, by omega, by rw [List.getElem?_eq_getElem hmm, he], y, y', c2, d2, by rw [c4, d4]; simp [revX], by rw [c3, d3]; rfl⟩
end Go.Proofs.Ytpednhcfkjjcpaa
end
section
/- The walk of net.Explore at a graph's system. -/
namespace Go.Proofs.Ytpednhcfkjjcpaa
open Go.RowKit Go.Maps
set_option linter.unusedVariables false
set_option linter.unusedSimpArgs false
attribute [local go_sem] Oper.semAt_some run_makeMap

theorem wpIn_at {F : Fence} {n : Nat} {P : Program} {c : Code} {Q : Exit → Act → World → Prop} {t : Array Value} {d : List Deferred} {w : World} (h : ∀ T, T = t → c.wpIn F n P Q { tmps := T, defers := d } w) : c.wpIn F n P Q { tmps := t, defers := d } w := h t rfl
theorem wpIn_cut {F : Fence} {n : Nat} {P : Program} {c : Code} {K : Act → World → Prop} {R : Exit → Act → World → Prop} {a : Act} {w : World} (Mid : Act → World → Prop) (h : c.wpIn F n P (Exit.then Mid R) a w) (hk : ∀ a' w', Mid a' w' → K a' w') : c.wpIn F n P (Exit.then K R) a w :=
  Code.wpIn_mono (fun e a w q => by cases e <;> first | exact hk _ _ q | exact q) h
theorem wpIn_seq2 {F : Fence} {n : Nat} {P : Program} {c x y : Code} {Q : Exit → Act → World → Prop} {a : Act} {w : World} (Mid : Act → World → Prop) (h : c.wpIn F n P (Exit.then (fun a w => x.wpIn F n P (Exit.then Mid Q) a w) Q) a w) (hk : ∀ a' w', Mid a' w' → y.wpIn F n P Q a' w') : (Code.seq c (Code.seq x y)).wpIn F n P Q a w :=
  wpIn_seq (Code.wpIn_mono (fun e a w q => by
    cases e with
    | normal => exact wpIn_seq (Code.wpIn_mono (fun e a w q => by cases e <;> first | exact hk _ _ q | exact q) q)
    | _ => exact q) h)
theorem act_of {T : List Value} {F : (Nat → Value) → List Value} {d : List Deferred} (h : T = F (fun j => T.getD j undef)) : ∃ u, ({ tmps := T.toArray, defers := d } : Act) = { tmps := (F u).toArray, defers := d } := ⟨_, by rw [← h]⟩
theorem info_str : (Try.prog.info? 9).map (fun i => (i.zero.map fun z => z.cells.size, i.size, i.bytes)) = some (some 1, 1, 16) := by kernel_rfl
theorem sz_NetE : (Try.prog.info? 24).map (·.size) = some 1 := by kernel_rfl
theorem sz_Nodes : (Try.prog.info? 22).map (·.size) = some 1 := by kernel_rfl
theorem sz_Strs : (Try.prog.info? 41).map (·.size) = some 1 := by kernel_rfl
theorem sz_Errno : (Try.prog.info? 31).map (·.size) = some 1 := by kernel_rfl
theorem sz_Int : (Try.prog.info? 3).map (·.size) = some 1 := by kernel_rfl
/-- The walk stands still here. -/
structure Stop (p : Prop) : Prop where
  out : p
section
variable {F : Fence} {n : Nat} {P : Program} {ops : Array Oper} {Q : Exit → Act → World → Prop} {a : Act} {w : World} {rest : List Oper} {o : Oper}
theorem stop_store (ty : TypeId) (x y : Operand) (ho : o.op = .store ty x y) (h : Stop (wpListIn F n P ops Q (o :: rest) a w)) : wpListIn F n P ops Q (o :: rest) a w := h.out
theorem stop_call (c : Call) (ho : o.op = .call c) (h : Stop (wpListIn F n P ops Q (o :: rest) a w)) : wpListIn F n P ops Q (o :: rest) a w := h.out
end
theorem load_strs {w : World} {b : Nat} {v : Value} (h : Holds w b 41 [v]) : (loadVar 41 ⟨b, 0, none⟩).run Try.prog w = .ok v w := by
  have d := h.cell 0
  simp only [List.getElem?_cons_zero] at d
  simp [go_sem, d]
theorem load_errno {w : World} {b : Nat} {v : Value} (h : Holds w b 31 [v]) : (loadVar 31 ⟨b, 0, none⟩).run Try.prog w = .ok v w := by
  have d := h.cell 0
  simp only [List.getElem?_cons_zero] at d
  simp [go_sem, d]
theorem methBegin (v : Value) (w : World) : (method 316 83 (.agg #[v]) "Begin").run Try.prog w = .ok (74, .agg #[v]) w := by kernel_rfl
theorem methLook (v : Value) (w : World) : (method 316 83 (.agg #[v]) "Look").run Try.prog w = .ok (75, .agg #[v]) w := by kernel_rfl
theorem methNext (v : Value) (w : World) : (method 316 83 (.agg #[v]) "Next").run Try.prog w = .ok (76, .agg #[v]) w := by kernel_rfl
theorem IterV.lower {w : World} {a b : Nat} {f v : Value} {s : ByteArray} (h : IterV w a f v s) (hb : b ≤ a) : IterV w b f v s := by
  obtain ⟨b0, b1, h1, h2, h3, h4, h5⟩ := h
  exact ⟨b0, b1, h1, h2, h3, by omega, by omega⟩
def sightC (x : PNode) : List Value := [.int .u64 (x.props : Int), .bool x.fin, .bool x.prog, .bool x.acc]
theorem sight_agg (x : PNode) : sight x = .agg (sightC x).toArray := rfl
theorem nilLook (v : Value) (w : World) : (nilAhead 316 83 (.agg #[v]) "Look").run Try.prog w = .ok (some false) w := by kernel_rfl
theorem nilNext (v : Value) (w : World) : (nilAhead 316 83 (.agg #[v]) "Next").run Try.prog w = .ok (some false) w := by kernel_rfl
end Go.Proofs.Ytpednhcfkjjcpaa
end
section
/- The walk of the statements' two: a graph laid anew. -/
namespace Go.Proofs.Ytpednhcfkjjcpaa
open Go.RowKit
set_option linter.unusedVariables false
set_option linter.unusedSimpArgs false

def twoN : PNet := [⟨[⟨1, 1, 0, [], [], 0⟩, ⟨0, 0, 1, [], [], 0⟩], 5, false, false, false⟩, ⟨[], 0, true, false, false⟩]
theorem sz_Net : (Try.prog.info? 24).map (·.size) = some 1 := by kernel_rfl
def TwoPost (w : World) (e : Ending) (w' : World) : Prop := Below w.heap.size w w' ∧ ∃ v, e = .returned (.agg #[v]) ∧ NetV (From w.heap.size) w' v twoN
end Go.Proofs.Ytpednhcfkjjcpaa
end
section
/- The walks of the reference's Same and Nets at things that are the same (printed by mknets.py). -/
namespace Go.Proofs.Ytpednhcfkjjcpaa
open Go.RowKit
set_option linter.unusedVariables false
set_option linter.unusedSimpArgs false

def Yes (w : World) (e : Ending) (w' : World) : Prop := e = .returned (.bool true) ∧ Below w.heap.size w w'
set_option maxHeartbeats 1000000 in
theorem sameFn {P P' : Nat → Prop} {w : World} {v v' : Value} {l : List Int} (h : RowL P w 1 v l.length (l.map intV)) (h' : RowL P' w 1 v' l.length (l.map intV)) (hn : l.length ≤ 2000000) : Calls Try.prog 40 #[v, v'] w (Yes w) := by
  obtain ⟨a, c, rfl, hc1, _, _⟩ := h.form
  obtain ⟨a', c', rfl, hc1', _, _⟩ := h'.form
  obtain ⟨N, hN⟩ : ∃ N, l.length = N := ⟨_, rfl⟩
  have H := Lib.hid h
  have H' := Lib.hid h'
  have HN := Lib.hid hN
  rw [hN] at hc1 hc1' hn
  rw [hN]
  clear h h' hN
  go_enter Try.func40, Try.ntmps40
  go_wp2
  go_loopw [5] (fun x wr => ∃ i : Nat, x = .int .i64 (i : Int) ∧ i ≤ N ∧ Hid (Below w.heap.size w wr)) (fun x _ => N - (intOf x).toNat)
  case atStart => exact ⟨0, rfl, Nat.zero_le _, Below.refl _ _⟩
  case round =>
    obtain ⟨i, hx, hi, HB⟩ := hrel
    subst hx
    by_cases hin : i < N
    · have hil : i < l.length := by rw [HN.out]; exact hin
      have hi2i : (i : Int) < (N : Int) := by omega
      have hi0i : (0 : Int) ≤ (i : Int) := by omega
      have hwii : IntKind.i64.wrap (i : Int) = (i : Int) := by rw [IntKind.wrap_i64]; omega
      have hwji : IntKind.i64.wrap ((i : Int) + 1) = (i : Int) + 1 := by rw [IntKind.wrap_i64]; omega
      obtain ⟨g, ob, cb, x, he1, hx1, hc1⟩ := (H.out.up (Keep.below HB.out)).at1 hil
      obtain ⟨g', ob', cb', x', he2, hx2, hc2⟩ := (H'.out.up (Keep.below HB.out)).at1 hil
      rw [hx1] at hx2
      injection hx2 with hx2
      subst hx2
      injection he1 with he1 _ he1'
      subst he1 he1'
      injection he2 with he2 _ he2'
      subst he2 he2'
      obtain ⟨q, hq⟩ : ∃ q : Int, x = .int .i64 q := by
        rw [List.getElem?_map, List.getElem?_eq_getElem hil] at hx1
        injection hx1 with hx1
        exact ⟨_, hx1.symm⟩
      subst hq
      clear hx1
      go_wp2
      go_quiet (fail)
      have HB2 : Hid (Below w.heap.size w (wr.drewN nq)) := ((Fr.of_below HB.out (fun _ => False)).drewN nq).to_below (Nat.le_refl _) fun _ _ h => h
      clear hc1 hc2 HB
      go_wp2
      refine ⟨⟨i + 1, by simp, by omega, HB2⟩, ?_⟩
      simp [intOf]
      omega
    · obtain rfl : i = N := by omega
      have HF : Hid (Yes w (.returned (.bool true)) wr) := ⟨rfl, HB.out⟩
      go_wp2
      go_ret
      exact HF.out
end Go.Proofs.Ytpednhcfkjjcpaa
end
section
/- The walk of net.CheckThreads at no processes. -/
namespace Go.Proofs.Ytpednhcfkjjcpaa
open Go.RowKit
set_option linter.unusedVariables false
set_option linter.unusedSimpArgs false

set_option maxHeartbeats 1000000 in
set_option maxRecDepth 100000 in
theorem emptyFn (w : World) : Calls Try.prog 29 #[.agg #[.slice none 0 0, .slice none 0 0, .slice none 0 0]] w (fun e w' => e = .returned (.int .i64 0) ∧ Below w.heap.size w w') := by
  go_enter Try.func29, Try.ntmps29
  go_wp2
  refine wp_loop_once ?_
  go_wp2
  refine wp_loop_once ?_
  go_wp2
  refine wp_loop_once ?_
  go_wp2
  go_ret
  exact ⟨rfl, (Below.refl _ _).alloc (Nat.le_refl _) _⟩
end Go.Proofs.Ytpednhcfkjjcpaa
end
section
/- The walk of the statements' known: two processes' graph is explored, or refused. -/
namespace Go.Proofs.Ytpednhcfkjjcpaa
open Go.RowKit Go.Maps
set_option linter.unusedVariables false
set_option linter.unusedSimpArgs false

theorem two_chk : chk twoN = true := by decide
theorem two_small : Small twoN := ⟨by decide, by decide, fun i hi j hj => by
  match i, hi, j, hj with
  | 0, _, 0, _ => exact ⟨by simp [twoN], by simp [twoN]⟩
  | 0, _, 1, _ => exact ⟨by simp [twoN], by simp [twoN]⟩
  | 0, _, j + 2, h => exact absurd h (by simp [twoN])
  | 1, _, j, h => exact absurd h (by simp [twoN])
  | i + 2, h, _, _ => exact absurd h (by simp [twoN])⟩
theorem two_ex2 : exF twoN 2 20001 0 [0] = some ([0, 1], twoN) := by rfl
theorem two_ex1 : exF twoN 1 20001 0 [0] = none := by rfl
theorem key1 : keyS 1 = ⟨#[1]⟩ := by
  unfold keyS
  rw [enc_lt (by omega)]
  rfl
end Go.Proofs.Ytpednhcfkjjcpaa
end
section
/- The walk of NetAgain: a graph that is explored may be, and explored again it is the same. -/
namespace Go.Proofs.Ytpednhcfkjjcpaa
open Go.RowKit Go.Maps
set_option linter.unusedVariables false
set_option linter.unusedSimpArgs false

theorem stepA_goes {most : Nat} {st st1 : List Nat} {a b : PArc} (h : stepA most st a = some (st1, b)) : ∃ t, b = a.goes t := by
  unfold stepA at h
  split at h
  · split at h
    · injection h with h; injection h with _ h; exact ⟨_, h.symm⟩
    · split at h
      · cases h
      · injection h with h; injection h with _ h; exact ⟨_, h.symm⟩
  · injection h with h; injection h with _ h; exact ⟨_, h.symm⟩
theorem stepAs_goes {most : Nat} : ∀ {l : List PArc} {st st1 : List Nat} {bs : List PArc}, stepAs most st l = some (st1, bs) → ∀ b ∈ bs, ∃ a ∈ l, ∃ t, b = a.goes t
  | [], st, st1, bs, h, b, hb => by
    rw [stepAs] at h; injection h with h; injection h with _ h; subst h; cases hb
  | a :: l, st, st1, bs, h, b, hb => by
    rw [stepAs] at h
    split at h
    · cases h
    · rename_i st' b1 e1
      split at h
      · cases h
      · rename_i st2 bs2 e2
        injection h with h; injection h with _ h; subst h
        rcases List.mem_cons.1 hb with rfl | hb
        · obtain ⟨t, ht⟩ := stepA_goes e1
          exact ⟨a, by simp, t, ht⟩
        · obtain ⟨a', ha, t, ht⟩ := stepAs_goes e2 b hb
          exact ⟨a', by simp [ha], t, ht⟩
theorem exF_goes {N : PNet} {most : Nat} : ∀ {fu i : Nat} {st st1 : List Nat} {out : PNet}, exF N most fu i st = some (st1, out) → ∀ x ∈ out, ∀ b ∈ x.arcs, ∃ y ∈ N, ∃ a ∈ y.arcs, ∃ t, b = a.goes t
  | 0, i, st, st1, out, h => by rw [exF] at h; cases h
  | fu + 1, i, st, st1, out, h => by
    rw [exF] at h
    split at h
    · injection h with h; injection h with _ h; subst h
      intro x hx; cases hx
    · split at h
      · cases h
      · rename_i y hy
        split at h
        · cases h
        · rename_i st' bs h1
          split at h
          · cases h
          · rename_i st2 out2 h2
            injection h with h; injection h with _ h; subst h
            intro x hx b hb
            rcases List.mem_cons.1 hx with rfl | hx
            · obtain ⟨a, ha, t, ht⟩ := stepAs_goes h1 b hb
              exact ⟨y, List.mem_of_getElem? hy, a, ha, t, ht⟩
            · exact exF_goes h2 x hx b hb
theorem Small.mem {N : PNet} (h : Small N) {y : PNode} (hy : y ∈ N) {a : PArc} (ha : a ∈ y.arcs) : a.reads.length ≤ 2000000 ∧ a.writes.length ≤ 2000000 := by
  obtain ⟨i, hi, rfl⟩ := List.getElem_of_mem hy
  obtain ⟨j, hj, rfl⟩ := List.getElem_of_mem ha
  exact h.reads i hi j hj
theorem small_chk {g : PNet} (hc : chk g = true) (hr : ∀ x ∈ g, ∀ b ∈ x.arcs, b.reads.length ≤ 2000000 ∧ b.writes.length ≤ 2000000) : Small g := by
  unfold chk at hc
  simp only [Bool.and_eq_true, decide_eq_true_eq] at hc
  exact ⟨by omega, by omega, fun i hi j hj => hr _ (List.getElem_mem hi) _ (List.getElem_mem hj)⟩
end Go.Proofs.Ytpednhcfkjjcpaa
end
