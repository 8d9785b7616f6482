/- The walk of sextantref15.Reach. -/
import Derived.Test.YtokkjifmgmngjaaMvs
import Derived.OwnWalk
import Derived.Deep.DeepCutAuto
namespace Go.Proofs.Ytokkjifmgmngjaa.G
open Go.RowKit Go.Maps
set_option linter.unusedVariables false
set_option linter.unusedSimpArgs false

theorem below_own {w W w2 : World} {e : TypeId} {size n : Nat} {v : Value} {xs : List Value} (hB : Below w.heap.size w W) (ho : W.ownsRow w.heap.size e size v n xs) (hg : W.grownBy w2 v.ownBlock) : Below w.heap.size w w2 := by
  refine ⟨hg.os.trans hB.os, hg.tape.trans hB.tape, hg.output.trans hB.output, Nat.le_trans hB.size hg.size, fun k hk => (hg.block k (Nat.lt_of_lt_of_le hk hB.size) ?_).trans (hB.block k hk)⟩
  intro hv
  rcases ho.2 with ⟨rfl, _⟩ | ⟨g, cap, cur, rfl, hb, _⟩
  · cases hv
  · have : k = g := by simpa [Value.ownBlock] using hv
    omega
theorem own_kept {W w2 : World} {base : Nat} {e t : TypeId} {size n g : Nat} {v : Value} {xs cs : List Value} (ho : W.ownsRow base e size v n xs) (hg : W.grownBy w2 v.ownBlock) (hH : Holds W g t cs) (hne : e ≠ t) : Holds w2 g t cs := by
  have hF : Fr (fun k => v.ownBlock = some k) W w2 := (Fr.refl _ _).grown hg fun k hk _ => hk
  exact hF.holds hH (owns_ne_holds ho hH hne)
theorem own_put {w : World} {base g i : Nat} {e t : TypeId} {size n : Nat} {v u : Value} {xs cs : List Value} (h : w.ownsRow base e size v n xs) (hH : Holds w g t cs) (hne : e ≠ t) : (w.setCell ⟨g, i, none⟩ u).ownsRow base e size v n xs :=
  ((Fr.refl (fun k => k = g) w).setCell (fun _ => rfl) u).owns h (fun k hk e => owns_ne_holds h hH hne (by rw [hk, e]))
theorem cells_of_new (w : World) (m : Nat) (hm : w.heap.size = m) (cs : List Value) (t : TypeId) : ∀ (j : Nat) (u : Value), cs[j]? = some u → (w.alloc (.cells cs.toArray t)).cell? ((⟨m, 0, none⟩ : Addr).add j) = some u := by
  intro j u hu
  subst hm
  rw [Addr.add_lit, Nat.zero_add, (Holds.new w t cs.toArray).cell j]
  exact hu
theorem own_holds {w : World} {base gg m n cap size : Nat} {e : TypeId} {xs : List Value} (h : w.ownsRow base e size (.slice (some ⟨gg, 0, none⟩) m cap) n xs) : base ≤ gg ∧ gg < w.heap.size ∧ ∃ cs, Holds w gg e cs := by
  rcases h.2 with ⟨h0, h1⟩ | ⟨g', cap', cur, hv, hb, hg, hnc, hcm, hcs, ht⟩
  · cases h0
  · injection hv with h1 h2 h3
    injection h1 with h1
    injection h1 with h1
    subst h1
    exact ⟨hb, (Array.getElem?_eq_some_iff.1 hg).1, cur.toList, by unfold Holds; rw [hg]⟩
theorem own_pair {w : World} {b1 b2 s1 s2 n1 n2 : Nat} {e1 e2 : TypeId} {v1 v2 : Value} {x1 x2 : List Value} (h1 : w.ownsRow b1 e1 s1 v1 n1 x1) (h2 : w.ownsRow b2 e2 s2 v2 n2 x2) (hne : e1 ≠ e2) : v1.ownBlock = none ∨ v1.ownBlock ≠ v2.ownBlock := by
  rcases h1.2 with ⟨rfl, _⟩ | ⟨g1, c1, u1, rfl, _, hh1, _⟩
  · exact .inl rfl
  · rcases h2.2 with ⟨rfl, _⟩ | ⟨g2, c2, u2, rfl, _, hh2, _⟩
    · exact .inr (by simp [Value.ownBlock])
    · refine .inr fun e => ?_
      have : g1 = g2 := by simpa [Value.ownBlock] using e
      subst this
      rw [hh1] at hh2
      injection hh2 with hh
      injection hh with _ ht
      exact hne ht
theorem own_cell {w : World} {base g m n cap size : Nat} {e : TypeId} {xs : List Value} (h : w.ownsRow base e size (.slice (some ⟨g, 0, none⟩) m cap) n xs) {j : Nat} (hj : j < n * size) : w.cell? ⟨g, j, none⟩ = xs[j]? := by
  have hn : 0 < n := by
    rcases Nat.eq_zero_or_pos n with h0 | h0
    · subst h0; omega
    · exact h0
  obtain ⟨a, c, hf, _, _⟩ := owns_form h
  injection hf with f1 f2 f3
  subst f2
  obtain ⟨g', he, _, _, _, _, hcs, _⟩ := owns_head h hn
  injection he with he
  injection he with he
  subst he
  exact hcs j hj
theorem RowL.atP {A : Type} {G : (Nat → Prop) → World → A → List Value → Prop} {n : Nat} (H : One G n) {P : Nat → Prop} {w : World} {v : Value} {l : List A} {f : List Value} {i : Nat} (h : RowL P w n v l.length f) (hf : LsF G P w l f) (hi : i < l.length) :
    ∃ g o cap c, v = .slice (some ⟨g, o, none⟩) l.length cap ∧ G P w l[i] c ∧ w.rangeAt g (o + i * n) c ∧ P g := by
  obtain ⟨g, o, cap, c, h1, h2, h3⟩ := h.atN H hf hi
  refine ⟨g, o, cap, c, h1, h2, h3, ?_⟩
  obtain ⟨a, cap', k1, _, _, _, _, k6⟩ := h
  obtain ⟨g', o', cs, t, q1, q2, _⟩ := k6 (by omega)
  subst q1
  rw [h1] at k1
  injection k1 with k1 _ _
  injection k1 with k1
  injection k1 with k1 _
  rw [k1]
  exact q2
/-- Reach, plain. -/
def rStep (s : List Bool × List Nat) (a : PArc) : List Bool × List Nat := if a.bad = 0 ∧ s.1.getD a.to.toNat true = false then (s.1.set a.to.toNat true, s.2 ++ [a.to.toNat]) else s
def rFrom (N : PNet) : Nat → Nat → List Bool × List Nat → List Bool
  | 0, _, s => s.1
  | fu + 1, i, s => match s.2[i]? with
    | none => s.1
    | some r => rFrom N fu (i + 1) (((N[r]?).getD zeroN).arcs.foldl rStep s)
def reachP (N : PNet) (frm least : Nat) : List Bool := rFrom N (N.length + 2) 0 (if least = 0 then (List.replicate N.length false).set frm true else List.replicate N.length false, [frm])
def FitN (N : PNet) : Prop := ∀ x ∈ N, ∀ a ∈ x.arcs, a.bad = 0 → 0 ≤ a.to ∧ a.to.toNat < N.length
def bools (l : List Bool) : List Value := l.map Value.bool
def nats (l : List Nat) : List Value := l.map natV
theorem count_set {l : List Bool} {x : Nat} (hx : l.getD x true = false) : (l.set x true).count true = l.count true + 1 ∧ x < l.length := by
  have hxl : x < l.length := by
    rcases Nat.lt_or_ge x l.length with h | h
    · exact h
    · rw [List.getD_eq_getElem?_getD, List.getElem?_eq_none h] at hx; cases hx
  refine ⟨?_, hxl⟩
  have h1 : l[x] = false := by
    rw [List.getD_eq_getElem?_getD, List.getElem?_eq_getElem hxl] at hx
    exact hx
  rw [List.count_eq_countP, List.countP_set hxl, h1]
  simp [List.count_eq_countP]
/-- What the loops know. -/
structure ReW (gm cm M : Nat) (bx : Value) (w0 w : World) (vr : Value) (met : List Bool) (row : List Nat) : Prop where
  hmet : w.ownsRow w0.heap.size 4 1 (.slice (some ⟨gm, 0, none⟩) M cm) M (bools met)
  hrow : w.ownsRow w0.heap.size 3 1 vr row.length (nats row)
  below : Below w0.heap.size w0 w
  box : Holds w w0.heap.size 24 [bx]
  len : met.length = M
  lt : ∀ r ∈ row, r < M
  few : row.length ≤ met.count true + 1
section
variable {gm cm M : Nat} {bx : Value} {w0 w w3 : World} {vr vr' : Value} {met : List Bool} {row : List Nat} {x : Nat}
theorem ReW.drewN (h : ReW gm cm M bx w0 w vr met row) (n : Nat) : ReW gm cm M bx w0 (w.drewN n) vr met row :=
  have hb : Below w.heap.size w (w.drewN n) := ⟨rfl, rfl, rfl, Nat.le_refl _, fun _ _ => rfl⟩
  ⟨owns_below h.hmet hb, owns_below h.hrow hb, h.below.trans (hb.mono h.below.size), h.box.belowAll hb, h.len, h.lt, h.few⟩
theorem ReW.short (h : ReW gm cm M bx w0 w vr met row) : row.length ≤ M + 1 := by
  have := h.few
  have h2 : met.count true ≤ met.length := List.count_le_length
  rw [h.len] at h2
  omega
theorem bools_set (l : List Bool) (x : Nat) : (bools l).set x (.bool true) = bools (l.set x true) := by
  unfold bools
  rw [List.map_set]
theorem ReW.mark (h : ReW gm cm M bx w0 w vr met row) (hx : met.getD x true = false) : ReW gm cm M bx w0 (w.setCell ⟨gm, x, none⟩ (.bool true)) vr (met.set x true) row := by
  obtain ⟨hm1, hm2, cs, hH⟩ := own_holds h.hmet
  have hst := (h.hmet.stored x (.bool true)).1
  rw [bools_set] at hst
  have hc := count_set hx
  exact ⟨hst, own_put (i := x) (u := .bool true) h.hrow hH (by decide), h.below.setCell (p := ⟨gm, x, none⟩) hm1 (.bool true), h.box.far (p := ⟨gm, x, none⟩) (h.box.ne_of_type hH (by decide)) (.bool true), by rw [List.length_set]; exact h.len, h.lt, by have := h.few; omega⟩
theorem ReW.put (h : ReW gm cm M bx w0 w vr met row) (hx : met.getD x true = false)
    (hg : ((w.setCell ⟨gm, x, none⟩ (.bool true)).alloc (.cells #[.int .i64 (x : Int)] 3)).grownBy w3 vr.ownBlock) (hr : w3.ownsRow w0.heap.size 3 1 vr' (row.length + 1) (nats row ++ [.int .i64 (x : Int)])) :
    ReW gm cm M bx w0 w3 vr' (met.set x true) (row ++ [x]) := by
  have h1 := h.mark hx
  have hc := count_set hx
  have hst2 := h1.hmet.alloc (.cells #[.int .i64 (x : Int)] 3)
  have hrow2 := h1.hrow.alloc (.cells #[.int .i64 (x : Int)] 3)
  have hbox2 := h1.box.alloc (.cells #[.int .i64 (x : Int)] 3)
  have hbe2 := h1.below.alloc h1.below.size (.cells #[.int .i64 (x : Int)] 3)
  refine ⟨hst2.kept hg (own_pair hst2 hrow2 (by decide)), ?_, below_own hbe2 hrow2 hg, own_kept hrow2 hg hbox2 (by decide), h1.len, fun r hr => ?_, ?_⟩
  · have e : nats (row ++ [x]) = nats row ++ [.int .i64 (x : Int)] := by simp [nats, natV]
    rw [List.length_append, List.length_singleton, e]
    exact hr
  · rcases List.mem_append.1 hr with hr | hr
    · exact h.lt r hr
    · rw [List.mem_singleton.1 hr]; have := hc.2; rw [h.len] at this; exact this
  · rw [List.length_append, List.length_singleton]
    have := h.few
    omega
end
def RePost (N : PNet) (frm least : Nat) (w : World) (e : Ending) (w' : World) : Prop := Below w.heap.size w w' ∧ ∃ g c, e = .returned (.slice (some ⟨g, 0, none⟩) N.length c) ∧ w'.ownsRow w.heap.size 4 1 (.slice (some ⟨g, 0, none⟩) N.length c) N.length (bools (reachP N frm least)) ∧ (reachP N frm least).length = N.length
theorem info_int3 : (Try.prog.info? 3).map (fun i => (i.zero, i.size, i.bytes)) = some (some (.int .i64 0), 1, 8) := by kernel_rfl
theorem info_bool : (Try.prog.info? 4).map (fun i => (i.zero, i.size, i.bytes)) = some (some (.bool false), 1, 1) := by kernel_rfl
set_option maxHeartbeats 4000000 in
set_option maxRecDepth 100000 in
theorem reachFn {P : Nat → Prop} {w : World} {v : Value} {N : PNet} {frm least : Nat} (hv : NetV P w v N) (hs : Small N) (hf : FitN N) (hfr : frm < N.length) (hl : least ≤ 1) : Calls Try.prog 24 #[.agg #[v], .int .i64 (frm : Int), .int .i64 (least : Int)] w (RePost N frm least w) := by
  have hv := hv.mono (Q := fun q => q < w.heap.size) (fun q _ hq => hq)
  obtain ⟨f, hrn, hgn⟩ := hv
  obtain ⟨aN, cN, rfl, hcN, _, _⟩ := hrn.form
  obtain ⟨M, hM⟩ : ∃ M, N.length = M := ⟨_, rfl⟩
  have HN := Lib.hid hM
  have HRN := Lib.hid hrn
  have HGN := Lib.hid hgn
  have HSM := Lib.hid hs
  have HFT := Lib.hid hf
  have hM2 : M ≤ 2000000 := by rw [← hM]; exact hs.nodes
  rw [hM] at hfr hcN ⊢
  obtain ⟨res, hres⟩ : ∃ r, reachP N frm least = r := ⟨_, rfl⟩
  have HRES := Lib.hid hres
  have hB0 : Below w.heap.size w (w.alloc (.cells #[.slice aN M cN] 24)) := (Below.refl _ _).alloc (Nat.le_refl _) _
  have hG0 := Holds.new w 24 #[.slice aN M cN]
  obtain ⟨i0, hi0, hz0, hz1, hz2⟩ := info_parts info_bool
  have hfr' : (frm : Int) < (M : Int) := by omega
  have hfr0 : (0 : Int) ≤ (frm : Int) := by omega
  clear hrn hgn hs hf hres
  go_enter Try.func24, Try.ntmps24
  go_wp2_with (at_make; refine wpList_make_full _ rfl (.tmp 14) (.tmp 14) 82 rfl w.heap.size 4 i0 (.bool false) 1 Try.underlying82 hi0 hz0 hz1 .i64 .i64 _ _ M rfl rfl rfl rfl ?b1 ?b2 ?b3 ?_)
  case b1 => omega
  case b2 => unfold maxLen; omega
  intro w1 hown hg
  have hm0 : (madeCells #[Value.bool false] M).toList = bools (List.replicate M false) := by
    rw [toList_madeCells_one]
    simp [bools]
  rw [hm0] at hown
  have hB1 : Below w.heap.size w w1 := hB0.grown hg (by simp) (fun k e => by cases e)
  have hG1 : Holds w1 w.heap.size 24 [.slice aN M cN] := hG0.of_eq (hg.block _ hG0.lt (by simp))
  obtain ⟨w2, hw2⟩ : ∃ W, W = w1.alloc (.cells #[.int .i64 (frm : Int)] 3) := ⟨_, rfl⟩
  have hR0 : ReW (w.heap.size + 1) M M (.slice aN M cN) w w2 (.slice (some ⟨w1.heap.size, 0, none⟩) 1 1) (List.replicate M false) [frm] := by
    have hr : w2.ownsRow w.heap.size 3 1 (.slice (some ⟨w1.heap.size, 0, none⟩) 1 1) 1 [.int .i64 (frm : Int)] := owns_lit (by rw [hw2]; exact Holds.new w1 3 #[.int .i64 (frm : Int)]) hB1.size rfl (by omega)
    refine ⟨by rw [hw2]; exact hown.alloc _, hr, by rw [hw2]; exact hB1.alloc hB1.size _, by rw [hw2]; exact hG1.alloc _, by simp, fun r h => by rw [List.mem_singleton.1 h]; exact hfr, by simp⟩
  clear hown hg hm0 hB0 hG0 hB1 hG1
  go_upto_if 19 with (fail)
  rw [← hw2]
  obtain ⟨q1, hq1⟩ : ∃ b, w1.heap.size = b := ⟨_, rfl⟩
  rw [hq1] at hR0 ⊢
  clear hw2 hq1
  go_cut [] (fun wx => ReW (w.heap.size + 1) M M (.slice aN M cN) w wx (.slice (some ⟨q1, 0, none⟩) 1 1) (if least = 0 then (List.replicate M false).set frm true else List.replicate M false) [frm])
  case first =>
    obtain ⟨_, hm2, cs, hH⟩ := own_holds hR0.hmet
    have hmk := own_cell hR0.hmet (j := frm) (by omega)
    have hfz := hH.free frm
    rw [show (bools (List.replicate M false))[frm]? = some (.bool false) by simp [bools, hfr]] at hmk
    have hR1 := hR0.mark (x := frm) (by simp [hfr])
    have hl2 : least = 0 ∨ least = 1 := by omega
    rcases hl2 with rfl | rfl
    · have HR1 := Lib.hid hR1
      clear hR0 hR1 hH hm2 hl
      go_wp2
      go_meet
      case rel => exact HR1.out
    · clear hR1 hH hm2 hl
      go_wp2
      go_meet
      case rel => exact hR0
  case rest =>
    obtain ⟨met0, hmet0⟩ : ∃ m, (if least = 0 then (List.replicate M false).set frm true else List.replicate M false) = m := ⟨_, rfl⟩
    have HRF : Hid (rFrom N (M + 2) 0 (met0, [frm]) = res) := by
      have h := HRES.out
      unfold reachP at h
      rw [HN.out, hmet0] at h
      exact h
    rw [hmet0] at hcut
    clear hR0 hmet0 hl
    go_wp2
    go_loopw [8, 9] (fun r y wr => ∃ (i : Nat) (met : List Bool) (row : List Nat), y = .int .i64 (i : Int) ∧ i ≤ row.length ∧ ReW (w.heap.size + 1) M M (.slice aN M cN) w wr r met row ∧ Hid (rFrom N (M + 2 - i) i (met, row) = res)) (fun _ y _ => (M + 10 - intOf y).toNat)
    case atStart => exact ⟨0, met0, [frm], rfl, Nat.zero_le _, hcut, HRF⟩
    case round =>
      clear hcut HRF
      obtain ⟨i, met, row, rfl, hi, hR, HRF⟩ := hrel
      have hsh := hR.short
      obtain ⟨avr, cvr, hvr, hcv0, hcv⟩ := owns_form hR.hrow
      obtain ⟨rl, hrl⟩ : ∃ rl, row.length = rl := ⟨_, rfl⟩
      rw [hrl] at hvr hcv0 hi hsh
      have HRL := Lib.hid hrl
      unfold maxLen at hcv
      by_cases hil : i < rl
      · have hil' : (i : Int) < (rl : Int) := by omega
        obtain ⟨x, hxq⟩ : ∃ x, row[i]? = some x := ⟨_, List.getElem?_eq_getElem (by omega)⟩
        have hxm := List.mem_of_getElem? hxq
        have hxN := hR.lt x hxm
        have hxN' : (x : Int) < (M : Int) := by omega
        subst hvr
        obtain ⟨gr, hgr, _, _, _, _, hcr, _⟩ := owns_head (by have := hR.hrow; rw [hrl] at this; exact this) (by omega)
        subst hgr
        have hxc : wr.cell? ⟨gr, i, none⟩ = some (.int .i64 (x : Int)) := by
          rw [hcr i (by omega)]; unfold nats; rw [List.getElem?_map, hxq]; rfl
        have hkeep : Keep (fun q => q < w.heap.size) w wr := Keep.below hR.below
        obtain ⟨gb, ob, cb, c, he1, hG1, hr1⟩ := (HRN.out.up hkeep).atN oneNode (LsF.up (fun _ _ => oneNode.up hkeep) _ HGN.out) (i := x) (by rw [HN.out]; exact hxN)
        rw [HN.out] at he1
        injection he1 with he1 _ he1'
        subst he1 he1'
        obtain ⟨nd, hnd⟩ : ∃ nd, N[x]'(by rw [HN.out]; exact hxN) = nd := ⟨_, rfl⟩
        rw [hnd] at hG1
        have hsm : nd.arcs.length ≤ 2000000 := by
          have h1 := node_le (n := N) (k := x) (by rw [HN.out]; exact hxN)
          have h2 := HSM.out.arcs
          rw [hnd] at h1
          omega
        obtain ⟨va, rfl, fa, ra, ga⟩ := hG1
        obtain ⟨aa, ac, rfl, hac, _, _⟩ := ra.form
        obtain ⟨K, hK⟩ : ∃ K, nd.arcs.length = K := ⟨_, rfl⟩
        have e7 : wr.cell? ⟨gb, ob + x * 5, none⟩ = some (.slice aa nd.arcs.length ac) := hr1 0 _ rfl
        rw [hK] at e7 hac hsm
        have HK := Lib.hid hK
        have HRA := Lib.hid ra
        have HGA := Lib.hid ga
        have hb0 := hR.box.cell 0
        simp only [List.getElem?_cons_zero] at hb0
        have HRF2 : Hid (rFrom N (M + 2 - (i + 1)) (i + 1) (nd.arcs.foldl rStep (met, row)) = res) := by
          have h := HRF.out
          rw [show M + 2 - i = (M + 2 - (i + 1)) + 1 by omega] at h
          unfold rFrom at h
          simp only [hxq] at h
          rw [List.getElem?_eq_getElem (by rw [HN.out]; exact hxN), hnd] at h
          exact h
        have HFX : Hid (∀ a ∈ nd.arcs, a.bad = 0 → 0 ≤ a.to ∧ a.to.toNat < M) := fun a ha hb => by
          have h := HFT.out nd (hnd ▸ List.getElem_mem _) a ha hb
          rw [HN.out] at h
          exact h
        obtain ⟨W0, hW0⟩ : ∃ W, W = wr := ⟨_, rfl⟩
        have HBW : Hid (Below w.heap.size w W0) := by rw [hW0]; exact hR.below
        rw [← hW0] at HRA HGA
        clear hrl hcr ra ga hK hr1 hnd hxq hxm hkeep HRF hW0
        go_wp2
        go_quiet (fail)
        go_wp2
        go_loopw [8, 11] (fun r z wr2 => ∃ (k : Nat) (met2 : List Bool) (row2 : List Nat), z = .int .i64 (k : Int) ∧ k ≤ K ∧ ReW (w.heap.size + 1) M M (.slice (some ⟨gb, ob, none⟩) M cN) w wr2 r met2 row2 ∧ rl ≤ row2.length ∧ Hid (rFrom N (M + 2 - (i + 1)) (i + 1) ((nd.arcs.drop k).foldl rStep (met2, row2)) = res)) (fun _ z _ => (K + 10 - intOf z).toNat)
        case atStart => exact ⟨0, met, row, rfl, Nat.zero_le _, hR.drewN _, by rw [HRL.out]; exact Nat.le_refl _, HRF2⟩
        case round =>
          clear hR hxc e7 hb0 HRF2
          obtain ⟨k, met2, row2, rfl, hk, hR, hrl2, HRF⟩ := hrel
          by_cases hka : k < K
          · have hka' : (k : Int) < (K : Int) := by omega
            have hka0 : (0 : Int) ≤ (k : Int) := by omega
            have hkl : k < nd.arcs.length := by rw [HK.out]; exact hka
            have hkeep : Keep (fun q => q < w.heap.size) W0 wr := fun q hq _ => (hR.below.block q hq).trans (HBW.out.block q hq).symm
            obtain ⟨ga, oa, ca, c, he1, hG1, hr1, hgl⟩ := RowL.atP oneArc (HRA.out.up hkeep) (LsF.up (fun _ _ => oneArc.up hkeep) _ HGA.out) hkl
            rw [HK.out] at he1
            injection he1 with he1 _ he1'
            subst he1 he1'
            obtain ⟨a, haa⟩ : ∃ a, nd.arcs[k] = a := ⟨_, rfl⟩
            rw [haa] at hG1
            have ham : a ∈ nd.arcs := haa ▸ List.getElem_mem hkl
            have hdr : nd.arcs.drop k = a :: nd.arcs.drop (k + 1) := by rw [← haa]; exact List.drop_eq_getElem_cons hkl
            obtain ⟨vr2, vw2, rfl, _, _⟩ := hG1
            have f1 : wr.cell? ⟨ga, oa + k * 6 + 1, none⟩ = some (.int .i64 a.to) := hr1 1 _ rfl
            have f2 : wr.cell? ⟨ga, oa + k * 6 + 2, none⟩ = some (.int .i64 a.bad) := hr1 2 _ rfl
            have HNXT : Hid (rFrom N (M + 2 - (i + 1)) (i + 1) ((nd.arcs.drop (k + 1)).foldl rStep (rStep (met2, row2) a)) = res) := by
              have h := HRF.out
              rw [hdr] at h
              exact h
            have hgl : ga < w.heap.size := hgl
            have hne1 : ga ≠ w.heap.size + 1 := by omega
            have hne2 : w.heap.size + 1 ≠ ga := by omega
            by_cases hb : a.bad = 0
            · obtain ⟨ht0, htl⟩ := HFX.out a ham hb
              obtain ⟨t, ht⟩ : ∃ t : Nat, a.to = (t : Int) := ⟨a.to.toNat, by omega⟩
              rw [ht] at f1
              rw [hb] at f2
              have htM : t < M := by rw [ht] at htl; simpa using htl
              have htM' : (t : Int) < (M : Int) := by omega
              have ht0' : (0 : Int) ≤ (t : Int) := by omega
              have hmc := own_cell hR.hmet (j := t) (by omega)
              have hml : t < met2.length := by rw [hR.len]; exact htM
              have hsh2 := hR.short
              cases hms : met2[t] with
              | true =>
                have hst : rStep (met2, row2) a = (met2, row2) := by
                  unfold rStep
                  rw [if_neg]
                  rintro ⟨_, h2⟩
                  rw [ht] at h2
                  simp [hml, hms] at h2
                rw [hst] at HNXT
                rw [show (bools met2)[t]? = some (.bool true) by simp [bools, hml, hms]] at hmc
                clear hms hst hr1 haa ham hdr HRF hb ht0 htl ht hkl
                go_wp2
                exact ⟨⟨k + 1, met2, row2, rfl, by omega, hR, hrl2, HNXT⟩, by simp [intOf]; omega⟩
              | false =>
                have hgd : met2.getD t true = false := by simp [hml, hms]
                have hst : rStep (met2, row2) a = (met2.set t true, row2 ++ [t]) := by
                  unfold rStep
                  rw [if_pos ⟨hb, by rw [ht]; exact hgd⟩, ht]
                  rfl
                rw [hst] at HNXT
                rw [show (bools met2)[t]? = some (.bool false) by simp [bools, hml, hms]] at hmc
                obtain ⟨hm1, hm2, csm, hH⟩ := own_holds hR.hmet
                have hfz := hH.free t
                have hrowA := (own_put (i := t) (u := .bool true) hR.hrow hH (by decide)).alloc (.cells #[.int .i64 (t : Int)] 3)
                have hbe1 := (hR.below.setCell (p := ⟨w.heap.size + 1, t, none⟩) hm1 (.bool true))
                have hbsz := (hbe1.alloc hbe1.size (.cells #[.int .i64 (t : Int)] 3)).size
                obtain ⟨i3, hi3, hy0, hy1, hy2⟩ := info_parts info_int3
                obtain ⟨av2, cv2, hv2, _, _⟩ := owns_form hR.hrow
                have HGD := Lib.hid hgd
                have HHM := Lib.hid hm1
                clear hms hst hr1 haa ham hdr HRF hb ht0 htl ht hkl hH hbe1 hgd hv2
                go_wp2_with (at_builtin; refine wpList_append_own_at _ rfl (.tmp 68) (.tmp 74) _ rfl w.heap.size 3 i3 _ 1 8 Try.underlying25 hi3 hy0 hy1 hy2 rfl (by omega) u8 row2.length (nats row2) rfl hrowA ⟨wr.heap.size, 0, none⟩ 1 1 [.int .i64 (t : Int)] rfl rfl ?c1 ?c2 ?c3 ?c4 ?c5 ?_)
                case c2 => simp [Value.oneCell']
                case c3 => unfold maxLen; omega
                case c4 => omega
                case c5 => have := hR.below.size; omega
                intro v' w5 hS g5 _ _
                have hR' := hR.put HGD.out g5 hS
                clear hR hS g5 hrowA hbsz hfz hmc f1 f2
                go_wp2
                exact ⟨⟨k + 1, met2.set t true, row2 ++ [t], rfl, by omega, hR', by rw [List.length_append]; omega, HNXT⟩, by simp [intOf]; omega⟩
            · have hst : rStep (met2, row2) a = (met2, row2) := by
                unfold rStep
                rw [if_neg]
                rintro ⟨h1, _⟩
                exact hb h1
              rw [hst] at HNXT
              have d0 : (a.bad == 0) = false := by simpa using hb
              clear hst hr1 haa ham hdr HRF hb hkl
              go_wp2
              exact ⟨⟨k + 1, met2, row2, rfl, by omega, hR, hrl2, HNXT⟩, by simp [intOf]; omega⟩
          · have hka' : decide ((k : Int) < (K : Int)) = false := decide_eq_false (by omega)
            have HNXT : Hid (rFrom N (M + 2 - (i + 1)) (i + 1) (met2, row2) = res) := by
              have h := HRF.out
              rw [List.drop_of_length_le (by rw [HK.out]; omega)] at h
              exact h
            have hsh2 := hR.short
            clear HRF
            go_wp2
            exact ⟨⟨i + 1, met2, row2, rfl, by omega, hR, HNXT⟩, by simp [intOf]; omega⟩
      · have hil' : decide ((i : Int) < (rl : Int)) = false := decide_eq_false (by omega)
        have hfin : met = res := by
          have h := HRF.out
          rw [show M + 2 - i = (M + 1 - i) + 1 by omega] at h
          unfold rFrom at h
          rw [List.getElem?_eq_none (show row.length ≤ i by omega)] at h
          exact h
        have hP : RePost N frm least w (.returned (.slice (some ⟨w.heap.size + 1, 0, none⟩) M M)) wr := by
          refine ⟨hR.below, _, _, by rw [HN.out], ?_, ?_⟩
          · rw [HRES.out, HN.out, ← hfin]; exact hR.hmet
          · rw [HRES.out, HN.out, ← hfin]; exact hR.len
        have HP := Lib.hid hP
        subst hvr
        clear hP hfin HRF hR
        go_wp2
        go_ret
        exact HP.out
end Go.Proofs.Ytokkjifmgmngjaa.G
