/- Ufa, Uro, joined. -/
import Derived.Test.YtpednhcfkjjcpaaUmo
import Derived.Test.YtpednhcfkjjcpaaUrh
import Derived.Test.YtpednhcfkjjcpaaUex
section
/- The walks of chapter 21's reference: Fails, Bytes, May. -/
namespace Go.Proofs.Ytpednhcfkjjcpaa.G
open Go.RowKit Go.Maps
set_option linter.unusedVariables false
set_option linter.unusedSimpArgs false

def failsN (e : Bool) (x : PNode) : Bool := x.arcs.any (fun a => decide (a.bad ≠ 0)) || (e && (x.arcs.isEmpty && !x.fin))
def failsP (g : PNet) (e : Bool) : Bool := g.any (failsN e)
set_option maxHeartbeats 4000000 in
set_option maxRecDepth 100000 in
theorem failsFn {P : Nat → Prop} {w : World} {v : Value} {g : PNet} {e : Bool} (h : NetV P w v g) (hn : g.length ≤ 2000000) (ha : ∀ x ∈ g, x.arcs.length ≤ 2000000) : Calls Try.prog 12 #[.agg #[v], .bool e] w (BoolB (failsP g e) w) := by
  have hv := h.mono (Q := fun q => q < w.heap.size) (fun q _ hq => hq)
  obtain ⟨f, hrn, hgn⟩ := hv
  obtain ⟨a0, c0, rfl, hc1, _, _⟩ := hrn.form
  obtain ⟨M, hM⟩ : ∃ M, g.length = M := ⟨_, rfl⟩
  obtain ⟨w1, hw1⟩ : ∃ W, W = w.alloc (.cells #[.slice a0 M c0] 24) := ⟨_, rfl⟩
  have hb1 : Below w.heap.size w w1 := by rw [hw1]; exact (Below.refl _ _).alloc (Nat.le_refl _) _
  have hG : Holds w1 w.heap.size 24 [.slice a0 M c0] := by rw [hw1]; exact Holds.new w 24 #[.slice a0 M c0]
  rw [hM] at hn hc1 ⊢
  have HMM := Lib.hid hM
  have HRN := Lib.hid hrn
  have HGN := Lib.hid hgn
  have HB1 := Lib.hid hb1
  have HG := Lib.hid hG
  have HA := Lib.hid ha
  clear h hrn hgn hM hb1 hG ha
  go_enter Try.func12, Try.ntmps12
  go_upto_region 1 with (fail)
  rw [← hw1]
  clear hw1
  go_wp2
  go_loopw [5] (fun y wr => ∃ i : Nat, y = .int .i64 (i : Int) ∧ i ≤ M ∧ Hid (Below w1.heap.size w1 wr) ∧ Hid ((g.take i).any (failsN e) = false)) (fun y _ => (M + 10 - intOf y).toNat)
  case atStart => exact ⟨0, rfl, Nat.zero_le _, Below.refl _ _, rfl⟩
  case round =>
    obtain ⟨i, rfl, hi, HBR, HNO⟩ := hrel
    have hb0 := (HG.out.belowAll HBR.out).cell 0
    simp only [List.getElem?_cons_zero] at hb0
    have HBW : Hid (Below w.heap.size w wr) := HB1.out.trans (HBR.out.mono HB1.out.size)
    by_cases hin : i < M
    · have hi1 : (i : Int) < (M : Int) := by omega
      have hi0 : (0 : Int) ≤ (i : Int) := by omega
      have hwj : IntKind.i64.wrap ((i : Int) + 1) = (i : Int) + 1 := by rw [IntKind.wrap_i64]; omega
      have hwi : IntKind.i64.wrap (i : Int) = (i : Int) := by rw [IntKind.wrap_i64]; omega
      have hil : i < g.length := by rw [HMM.out]; exact hin
      have hkeep : Keep (fun q => q < w.heap.size) w wr := fun q hq _ => HBW.out.block q hq
      obtain ⟨gb, ob, cb, cc, he1, hGn, hr1⟩ := (HRN.out.up hkeep).atN oneNode (LsF.up (fun _ _ => oneNode.up hkeep) _ HGN.out) (i := i) hil
      rw [HMM.out] at he1
      injection he1 with he1 _ he1'
      subst he1 he1'
      obtain ⟨nd, hnd⟩ : ∃ nd, g[i] = nd := ⟨_, rfl⟩
      have hal := HA.out nd (by rw [← hnd]; exact List.getElem_mem hil)
      have HSN : Hid ((g.take (i + 1)).any (failsN e) = failsN e nd) := by
        show _ = _
        rw [List.take_add_one, List.getElem?_eq_getElem hil, hnd, List.any_append, HNO.out]
        simp
      have HFA : failsN e nd = true → Hid (failsP g e = true) := fun h => by
        show _ = _
        unfold failsP
        rw [List.any_eq_true]
        exact ⟨nd, by rw [← hnd]; exact List.getElem_mem hil, h⟩
      have HFA := Lib.hid HFA
      rw [hnd] at hGn
      obtain ⟨va, rfl, f1, hr2, hg2⟩ := hGn
      obtain ⟨a2, c2, rfl, hc2, _, _⟩ := hr2.form
      obtain ⟨K, hK⟩ : ∃ K, nd.arcs.length = K := ⟨_, rfl⟩
      have HK := Lib.hid hK
      rw [hK] at hal hc2 hr1
      have y0 : wr.cell? ⟨gb, ob + i * 5, none⟩ = some (.slice a2 K c2) := hr1 0 _ rfl
      have HY2 : Hid (wr.cell? ⟨gb, ob + i * 5 + 2, none⟩ = some (.bool nd.fin)) := hr1 2 _ rfl
      have HR2 := Lib.hid hr2
      have HG2 := Lib.hid hg2
      clear hnd hil hr1 hr2 hg2 hK hkeep
      obtain ⟨wo, hwo⟩ : ∃ W, W = wr := ⟨_, rfl⟩
      subst hwo
      go_wp2
      go_loopw [7] (fun y wx => ∃ k : Nat, y = .int .i64 (k : Int) ∧ k ≤ K ∧ Hid (Below wo.heap.size wo wx) ∧ Hid ((nd.arcs.take k).any (fun a => decide (a.bad ≠ 0)) = false)) (fun y _ => (K + 10 - intOf y).toNat)
      case atStart => exact ⟨0, rfl, Nat.zero_le _, Below.refl _ _, rfl⟩
      case round =>
        obtain ⟨k, rfl, hk, HBX, HNK⟩ := hrel
        have hb0 := (HG.out.belowAll (HBR.out.trans (HBX.out.mono HBR.out.size))).cell 0
        simp only [List.getElem?_cons_zero] at hb0
        by_cases hkn : k < K
        · have hk1 : (k : Int) < (K : Int) := by omega
          have hk0 : (0 : Int) ≤ (k : Int) := by omega
          have hwk1 : IntKind.i64.wrap ((k : Int) + 1) = (k : Int) + 1 := by rw [IntKind.wrap_i64]; omega
          have hwk : IntKind.i64.wrap (k : Int) = (k : Int) := by rw [IntKind.wrap_i64]; omega
          have hkl : k < nd.arcs.length := by rw [HK.out]; exact hkn
          obtain ⟨ga, oa, ca, cd, he2, hGa, hr3⟩ := (HR2.out.up (Keep.below HBX.out)).atN oneArc (LsF.up (fun _ _ => oneArc.up (Keep.below HBX.out)) _ HG2.out) (i := k) hkl
          rw [HK.out] at he2
          injection he2 with he2 _ he2'
          subst he2 he2'
          obtain ⟨ar, har⟩ : ∃ ar, nd.arcs[k] = ar := ⟨_, rfl⟩
          have HSK : Hid ((nd.arcs.take (k + 1)).any (fun a => decide (a.bad ≠ 0)) = decide (ar.bad ≠ 0)) := by
            show _ = _
            rw [List.take_add_one, List.getElem?_eq_getElem hkl, har, List.any_append, HNK.out]
            simp
          have HMA : Hid (ar ∈ nd.arcs) := by show ar ∈ nd.arcs; rw [← har]; exact List.getElem_mem hkl
          rw [har] at hGa
          obtain ⟨vr, vw, rfl, _, _⟩ := hGa
          have z2 : wr.cell? ⟨ga, oa + k * 6 + 2, none⟩ = some (.int .i64 ar.bad) := hr3 2 _ rfl
          by_cases hbd : ar.bad = 0
          · have d1 : (ar.bad != 0) = false := by simpa using hbd
            have HNK2 : Hid ((nd.arcs.take (k + 1)).any (fun a => decide (a.bad ≠ 0)) = false) := HSK.out.trans (by simpa using hbd)
            clear hbd hr3 har hkl
            go_wp2
            exact ⟨⟨k + 1, by simp, by omega, HBX, HNK2⟩, by simp [intOf]; omega⟩
          · have d1 : (ar.bad != 0) = true := by simpa using hbd
            have HY : Hid (failsP g e = true) := (HFA.out (by
              unfold failsN
              rw [Bool.or_eq_true]
              exact .inl (List.any_eq_true.2 ⟨ar, HMA.out, by simpa using hbd⟩)))
            clear hbd hr3 har hkl
            go_wp2
            go_ret
            exact ⟨by rw [HY.out]; rfl, HBW.out.trans (HBX.out.mono HBW.out.size)⟩
        · obtain rfl : k = K := by omega
          have hk1 : decide ((k : Int) < (k : Int)) = false := decide_eq_false (by omega)
          have HBZ : Hid (Below w1.heap.size w1 wr) := HBR.out.trans (HBX.out.mono HBR.out.size)
          have hall := HNK.out
          rw [List.take_of_length_le (by rw [HK.out]; exact Nat.le_refl _)] at hall
          have HFN : Hid (failsN e nd = (e && (nd.arcs.isEmpty && !nd.fin))) := by show _ = _; unfold failsN; rw [hall]; rfl
          have y2 := cell_up HY2.out HBX.out
          obtain ⟨b1, hb1⟩ : ∃ b, nd.fin = b := ⟨_, rfl⟩
          rw [hb1] at y2
          have HB1' := Lib.hid hb1
          clear hall hb1
          by_cases hK0 : k = 0
          · have dk : ((k : Int) == 0) = true := by rw [hK0]; rfl
            have HIE : Hid (nd.arcs.isEmpty = true) := by show _ = _; rw [List.isEmpty_iff]; exact List.length_eq_zero_iff.1 (by rw [HK.out]; exact hK0)
            clear hK0
            cases e with
            | false =>
              have HNO2 : Hid ((g.take (i + 1)).any (failsN false) = false) := by show _ = _; rw [HSN.out, HFN.out]; rfl
              go_wp2
              exact ⟨⟨i + 1, rfl, by omega, HBZ, HNO2⟩, by simp [intOf]; omega⟩
            | true =>
              cases b1 with
              | true =>
                have HNO2 : Hid ((g.take (i + 1)).any (failsN true) = false) := by show _ = _; rw [HSN.out, HFN.out, HIE.out, HB1'.out]; rfl
                go_wp2
                exact ⟨⟨i + 1, rfl, by omega, HBZ, HNO2⟩, by simp [intOf]; omega⟩
              | false =>
                have HY : Hid (failsP g true = true) := HFA.out (by rw [HFN.out, HIE.out, HB1'.out]; rfl)
                go_wp2
                go_ret
                exact ⟨by rw [HY.out]; rfl, HBW.out.trans (HBX.out.mono HBW.out.size)⟩
          · have dk : ((k : Int) == 0) = false := by rw [Bool.eq_false_iff]; intro h; have h4 := eq_of_beq h; omega
            have HIE : Hid (nd.arcs.isEmpty = false) := by
              show _ = _
              rw [Bool.eq_false_iff]
              intro h
              rw [List.isEmpty_iff] at h
              exact hK0 (by rw [← HK.out, h]; rfl)
            have HNO2 : Hid ((g.take (i + 1)).any (failsN e) = false) := by show _ = _; rw [HSN.out, HFN.out, HIE.out]; simp
            clear hK0
            cases e with
            | false =>
              go_wp2
              exact ⟨⟨i + 1, rfl, by omega, HBZ, HNO2⟩, by simp [intOf]; omega⟩
            | true =>
              go_wp2
              exact ⟨⟨i + 1, rfl, by omega, HBZ, HNO2⟩, by simp [intOf]; omega⟩
    · obtain rfl : i = M := by omega
      have hi1 : decide ((i : Int) < (i : Int)) = false := decide_eq_false (by omega)
      have HY : Hid (failsP g e = false) := by
        have h := HNO.out
        rw [List.take_of_length_le (by rw [HMM.out]; exact Nat.le_refl _)] at h
        exact h
      go_wp2
      go_ret
      exact ⟨by rw [HY.out]; rfl, HBW.out⟩
set_option maxHeartbeats 1000000 in
theorem bytesFn {P : Nat → Prop} {w : World} {v : Value} {L : List ByteArray} (h : RowL P w 1 v L.length (L.map fun m => .string m)) (hn : L.length ≤ 1000000) (hs : ∀ s ∈ L, s.size ≤ 1048576) : Calls Try.prog 11 #[v] w (fun e w' => e = .returned (.int .i64 (totB L : Int)) ∧ Below w.heap.size w w') := by
  obtain ⟨a, c, rfl, hc, _, _⟩ := h.form
  obtain ⟨N, hN⟩ : ∃ N, L.length = N := ⟨_, rfl⟩
  have HN := Lib.hid hN
  have H := Lib.hid h
  have HS := Lib.hid hs
  have hbnd : ∀ i, totB (L.take i) ≤ i * 1048576 := fun i => by
    have h1 : ∀ l : List ByteArray, (∀ s ∈ l, s.size ≤ 1048576) → totB l ≤ l.length * 1048576 := fun l => by
      induction l with
      | nil => intro _; simp [totB]
      | cons a l ih =>
        intro h
        have h1 := ih fun s hs => h s (List.mem_cons_of_mem _ hs)
        have h2 := h a List.mem_cons_self
        unfold totB at h1 ⊢
        rw [List.map_cons, List.sum_cons, List.length_cons, Nat.succ_mul]
        omega
    have h2 := h1 (L.take i) fun s hs' => hs s (List.mem_of_mem_take hs')
    have h3 : (L.take i).length ≤ i := by rw [List.length_take]; omega
    exact Nat.le_trans h2 (Nat.mul_le_mul_right _ h3)
  have HBD := Lib.hid hbnd
  rw [hN] at hc hn ⊢
  clear h hs hN hbnd
  go_enter Try.func11, Try.ntmps11
  go_wp2
  go_loopw [3, 4] (fun x y wr => ∃ i : Nat, x = .int .i64 (totB (L.take i) : Int) ∧ y = .int .i64 (i : Int) ∧ i ≤ N ∧ Hid (Below w.heap.size w wr)) (fun _ y _ => (N + 10 - intOf y).toNat)
  case atStart => exact ⟨0, rfl, rfl, Nat.zero_le _, Below.refl _ _⟩
  case round =>
    obtain ⟨i, rfl, rfl, hi, HB⟩ := hrel
    by_cases hin : i < N
    · have hi1 : (i : Int) < (N : Int) := by omega
      have hi0 : (0 : Int) ≤ (i : Int) := by omega
      have hwj : IntKind.i64.wrap ((i : Int) + 1) = (i : Int) + 1 := by rw [IntKind.wrap_i64]; omega
      have hwi : IntKind.i64.wrap (i : Int) = (i : Int) := by rw [IntKind.wrap_i64]; omega
      have hil : i < L.length := by rw [HN.out]; exact hin
      obtain ⟨g, ob, cap, x, he, hx, hc1⟩ := (H.out.up (Keep.below HB.out)).at1 hil
      rw [HN.out] at he
      injection he with he _ hec
      subst he hec
      rw [List.getElem?_map, List.getElem?_eq_getElem hil] at hx
      injection hx with hx
      obtain ⟨s, hs⟩ : ∃ s, L[i] = s := ⟨_, rfl⟩
      rw [hs] at hx
      subst hx
      have hss := HS.out s (by rw [← hs]; exact List.getElem_mem hil)
      have hst : totB (L.take (i + 1)) = totB (L.take i) + s.size := by
        unfold totB
        rw [List.take_add_one, List.getElem?_eq_getElem hil, hs]
        simp
      have HST := Lib.hid hst
      have hb := HBD.out i
      obtain ⟨T, hT⟩ : ∃ T, totB (L.take i) = T := ⟨_, rfl⟩
      rw [hT] at hb hst ⊢
      obtain ⟨T2, hT2⟩ : ∃ T2, T + s.size = T2 := ⟨_, rfl⟩
      have hwt : IntKind.i64.wrap ((T : Int) + (s.size : Int)) = (T2 : Int) := by
        have : i * 1048576 ≤ 1000000 * 1048576 := Nat.mul_le_mul_right _ (by omega)
        rw [IntKind.wrap_i64, ← hT2]; omega
      have HE : Hid (T2 = totB (L.take (i + 1))) := by show _ = _; rw [HST.out, hT, hT2]
      clear hs hil hst hb hT hT2 hss
      go_wp2
      exact ⟨⟨i + 1, by rw [HE.out], rfl, by omega, HB⟩, by simp [intOf]; omega⟩
    · obtain rfl : i = N := by omega
      have hi1 : decide ((i : Int) < (i : Int)) = false := decide_eq_false (by omega)
      have HE : Hid (totB (L.take i) = totB L) := by show _ = _; rw [List.take_of_length_le (by rw [HN.out]; exact Nat.le_refl _)]
      go_wp2
      go_ret
      exact ⟨by rw [HE.out]; rfl, HB.out⟩
end Go.Proofs.Ytpednhcfkjjcpaa.G
end
section
/- What a search that follows all moves tells, beside the graph of all that is reached; plain. -/
namespace Go.Proofs.Ytpednhcfkjjcpaa.G
open Go.RowKit
set_option linter.unusedVariables false
set_option linter.unusedSimpArgs false

/-- All moves of each state are followed. -/
def AllCl (S : Sys) (x : Sr) : Prop := ∀ (n : Nat) (s : ByteArray), x.sts[n]? = some s → x.cl[n]? = some (S.next s)
section
variable {S : Sys} {o : POpt}
theorem allCl_enter {x y : Sr} {s : ByteArray} (h : AllCl S x) (hl : x.cl.length = x.sts.length) (hy : enterP S o (allP S) x s = .inl y) : AllCl S y := by
  unfold enterP at hy
  dsimp only at hy
  split at hy
  · cases hy
  · injection hy with hy
    subst hy
    intro n t ht
    have ht : (x.sts ++ [s])[n]? = some t := ht
    show (x.cl ++ [allP S _ s])[n]? = _
    rcases get_app ht with ⟨h1, h2⟩ | ⟨h1, rfl⟩
    · rw [List.getElem?_append_left (by omega)]
      exact h n t h2
    · rw [h1, ← hl, List.getElem?_append_right (Nat.le_refl _), Nat.sub_self]
      rfl
theorem allCl_step {x y : Sr} (hi : Inv S o x) (h : AllCl S x) (hy : stepP S o (allP S) x = .inl y) : AllCl S y := by
  unfold stepP at hy
  split at hy
  · cases hy
  · rename_i f r hw
    split at hy
    · injection hy with hy
      subst hy
      exact h
    · rename_i m hm
      split at hy
      · injection hy with hy
        subst hy
        exact h
      · split at hy
        · cases hy
        · split at hy
          · cases hy
          · injection hy with hy
            subst hy
            exact h
          · refine allCl_enter ?_ ?_ hy
            · exact h
            · exact hi.cll
theorem allCl_stp {x y : Sr} (h : Stp S o (allP S) x y) (hi : Inv S o x) (hx : AllCl S x) : AllCl S y := by
  induction h with
  | refl => exact hx
  | tail h1 hs ih => exact allCl_step (h1.inv (allP_ok S) hi) ih hs
theorem ended_one {x : Sr} (h : (ended x).verdict = 1) : x.limit = 0 := by
  unfold ended at h
  split at h
  · assumption
  · cases h
theorem enter_two {x : Sr} {s : ByteArray} {r : PFound} {ch : List ByteArray → ByteArray → List PMove} (h : enterP S o ch x s = .inr r) : r.verdict = 2 := by
  unfold enterP at h
  dsimp only at h
  split at h
  · injection h with h
    subst h
    rfl
  · cases h
theorem putP_full {L : List ByteArray} {s : ByteArray} {why : Int} (h : putP o L s = .full why) : why ≠ 0 := by
  unfold putP at h
  split at h
  · cases h
  · split at h
    · injection h with h; omega
    · split at h
      · injection h with h; omega
      · cases h
/-- Where a search tells that nothing is there. -/
theorem holds_end {ch : List ByteArray → ByteArray → List PMove} {r : PFound} (h : EndsIn S o ch r) (hv : r.verdict = 1) : ∃ x y, startP S o ch = .inl x ∧ Stp S o ch x y ∧ y.way = [] ∧ y.limit = 0 ∧ r = ended y := by
  rcases h with h | ⟨x, y, h1, h2, h3⟩
  · exfalso
    unfold startP at h
    split at h
    · rename_i why hp
      injection h with h
      subst h
      exact putP_full hp (ended_one hv)
    · have := enter_two h
      omega
  · unfold stepP at h3
    split at h3
    · rename_i hw
      injection h3 with h3
      subst h3
      exact ⟨x, y, h1, h2, hw, ended_one hv, rfl⟩
    · split at h3
      · cases h3
      · split at h3
        · cases h3
        · split at h3
          · injection h3 with h3
            subst h3
            cases hv
          · split at h3
            · rename_i why hp
              injection h3 with h3
              subst h3
              exact absurd (ended_one hv) (putP_full hp)
            · cases h3
            · have := enter_two h3
              omega
theorem allCl_start {x : Sr} (h : startP S o (allP S) = .inl x) : AllCl S x := by
  unfold startP at h
  split at h
  · cases h
  · exact allCl_enter (fun n s hs => (by cases hs)) rfl h
/-- Then all that is reached is stored, and nothing fails. -/
theorem holds_all {r : PFound} (h : EndsIn S o (allP S) r) (hs : 1 ≤ o.states) (hd : 0 ≤ o.depth) (hv : r.verdict = 1) : ∃ y, Inv S o y ∧ AllCl S y ∧ y.way = [] ∧ y.limit = 0 ∧ r = ended y ∧ (∀ s, Rch S s → s ∈ y.sts) ∧ (∀ s, Rch S s → ∀ m ∈ S.next s, m.bad = 0) ∧ (o.ends = true → ∀ s, Rch S s → S.next s = [] → (S.look s).fin = true) := by
  obtain ⟨x, y, h1, h2, h3, h4, h5⟩ := holds_end h hv
  have hi0 := (inv_start (allP_ok S) hs hd).1 x h1
  have hi := h2.inv (allP_ok S) hi0
  have hc := allCl_stp h2 hi0 (allCl_start h1)
  have hdone : ∀ s ∈ y.sts, ∀ m ∈ S.next s, m.bad = 0 ∧ m.dst ∈ y.sts := fun s hsy => by
    obtain ⟨n, hn⟩ := List.getElem?_of_mem hsy
    exact hi.done h4 n s _ hn (hc n s hn) (by rw [h3]; simp)
  have hall : ∀ s, Rch S s → s ∈ y.sts := fun s hr => by
    induction hr with
    | beg =>
      have := hi.beg
      cases hy : y.sts with
      | nil => rw [hy] at this; cases this
      | cons a l => rw [hy] at this; injection this with this; rw [this]; exact List.mem_cons_self
    | step _ hm _ ih => exact (hdone _ ih _ hm).2
  refine ⟨y, hi, hc, h3, h4, h5, hall, fun s hr m hm => (hdone s (hall s hr) m hm).1, fun he s hr h0 => ?_⟩
  obtain ⟨n, hn⟩ := List.getElem?_of_mem (hall s hr)
  exact hi.ends he n s hn h0
end
section
variable {S : Sys} {st : List ByteArray} {g : PNet}
theorem Expl.at (h : Expl S st g) {s : ByteArray} (hs : Rch S s) : { S.look s with arcs := (S.next s).map (arcOf st) } ∈ g := by
  obtain ⟨n, hn⟩ := List.getElem?_of_mem ((h.rch s).2 hs)
  exact List.mem_of_getElem? (h.node n s hn)
theorem Expl.fails_bad (h : Expl S st g) {s : ByteArray} {m : PMove} (hs : Rch S s) (hm : m ∈ S.next s) (hb : m.bad ≠ 0) (e : Bool) : failsP g e = true := by
  unfold failsP
  rw [List.any_eq_true]
  refine ⟨_, h.at hs, ?_⟩
  unfold failsN
  rw [Bool.or_eq_true]
  refine .inl (List.any_eq_true.2 ⟨arcOf st m, List.mem_map_of_mem hm, ?_⟩)
  show decide (m.bad ≠ 0) = true
  simpa using hb
theorem Expl.fails_end (h : Expl S st g) {s : ByteArray} (hs : Rch S s) (h0 : S.next s = []) (hf : (S.look s).fin = false) : failsP g true = true := by
  unfold failsP
  rw [List.any_eq_true]
  refine ⟨_, h.at hs, ?_⟩
  unfold failsN
  rw [h0]
  simp [hf]
theorem Expl.fine (h : Expl S st g) {e : Bool} (h1 : ∀ s, Rch S s → ∀ m ∈ S.next s, m.bad = 0) (h2 : e = true → ∀ s, Rch S s → S.next s = [] → (S.look s).fin = true) : failsP g e = false := by
  unfold failsP
  rw [List.any_eq_false]
  intro x hx
  obtain ⟨k, hk⟩ := List.getElem?_of_mem hx
  have hkl : k < st.length := by rw [← h.len]; exact (List.getElem?_eq_some_iff.1 hk).1
  have hr := (h.rch st[k]).1 (List.getElem_mem hkl)
  have hn := h.node k _ (List.getElem?_eq_getElem hkl)
  rw [hk] at hn
  injection hn with hn
  subst hn
  unfold failsN
  rw [Bool.not_eq_true, Bool.or_eq_false_iff]
  constructor
  · rw [List.any_eq_false]
    intro a ha
    obtain ⟨m, hm, rfl⟩ := List.mem_map.1 ha
    have := h1 _ hr m hm
    show ¬ decide (m.bad ≠ 0) = true
    simpa using this
  · cases e with
    | false => rfl
    | true =>
      cases hq : S.next st[k] with
      | nil => simp [h2 rfl _ hr hq]
      | cons a l => simp
theorem Expl.fewS (h : Expl S st g) : FewS S st.length := fun l hn hl => (within_len hn fun s hs => (h.rch s).2 (hl s hs)).1
theorem Expl.pos (h : Expl S st g) : 0 < st.length := by
  have := h.beg
  cases hs : st with
  | nil => rw [hs] at this; cases this
  | cons a l => simp
/-- With room for all that is reached: what is told is what is there. -/
theorem room_law {o : POpt} {r : PFound} (h : Expl S st g) (hr : EndsIn S o (allP S) r) (h1 : (st.length : Int) ≤ o.states) (h2 : (st.length : Int) ≤ o.depth) (h3 : (totB st : Int) ≤ o.bytes) : (r.verdict = 1 ∧ failsP g o.ends = false) ∨ (r.verdict = 2 ∧ failsP g o.ends = true) := by
  have hp := h.pos
  have hs : 1 ≤ o.states := by omega
  have hd : 0 ≤ o.depth := by omega
  rcases hr.ok (allP_ok S) hs hd with ⟨hv, _, hw⟩ | ⟨hv, _⟩ | ⟨hv, _, L, hn, hL, hw⟩
  · refine .inr ⟨hv, ?_⟩
    rcases hw with ⟨_, he, e, hwk, h0, hf⟩ | ⟨p, m, e, _, hwk, hm, hb, _⟩
    · rw [he]
      exact h.fails_end (hwk.rch .beg) h0 hf
    · exact h.fails_bad (hwk.rch .beg) hm hb _
  · obtain ⟨y, _, _, _, _, _, _, q1, q2⟩ := holds_all hr hs hd hv
    exact .inl ⟨hv, h.fine q1 q2⟩
  · exfalso
    have hin := within_len hn fun s hs => (h.rch s).2 (hL s hs)
    rcases hw with ⟨_, hw⟩ | ⟨_, hw⟩ | ⟨_, hw⟩
    · omega
    · have := hin.2; omega
    · omega
end
end Go.Proofs.Ytpednhcfkjjcpaa.G
end
