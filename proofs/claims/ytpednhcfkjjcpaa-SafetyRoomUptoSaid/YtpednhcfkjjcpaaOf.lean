/- The walk of net.Of (printed by mkof.py). -/
import Derived.Test.YtpednhcfkjjcpaaChk
import Derived.Test.YtpednhcfkjjcpaaMg2
namespace Go.Proofs.Ytpednhcfkjjcpaa
open Go.RowKit
set_option linter.unusedVariables false
set_option linter.unusedSimpArgs false

/-- The cells of the j-th of things of m cells. -/
def cut (m j : Nat) (cs : List Value) : List Value := (cs.drop (j * m)).take m
theorem LsF.of_cut {A : Type} {F : (Nat → Prop) → World → A → List Value → Prop} {P : Nat → Prop} {w : World} {m : Nat} : ∀ (l : List A) (cs : List Value), (∀ (j : Nat) (h : j < l.length), F P w l[j] (cut m j cs)) → LsF F P w l (cs.take (l.length * m))
  | [], cs, h => by simp [LsF]
  | a :: l, cs, h => by
    have h0 := h 0 (by simp)
    refine ⟨cut m 0 cs, (cs.drop m).take (l.length * m), ?_, h0, LsF.of_cut l (cs.drop m) fun j hj => ?_⟩
    · unfold cut
      rw [Nat.zero_mul, List.drop_zero, List.length_cons, Nat.succ_mul, Nat.add_comm, List.take_add]
    · have := h (j + 1) (by simpa using hj)
      have e : (j + 1) * m = m + j * m := by rw [Nat.succ_mul, Nat.add_comm]
      unfold cut at this ⊢
      rw [List.drop_drop]
      rw [e] at this
      simpa using this
theorem cut_len {m j M : Nat} {cs : List Value} (h : M * m ≤ cs.length) (hj : j < M) : (cut m j cs).length = m := by
  unfold cut
  rw [List.length_take, List.length_drop]
  have : (j + 1) * m ≤ M * m := Nat.mul_le_mul_right _ hj
  rw [Nat.succ_mul] at this
  omega
theorem cut_get {m j q : Nat} {cs : List Value} (h : q < m) : (cut m j cs)[q]? = cs[j * m + q]? := by
  unfold cut
  rw [List.getElem?_take_of_lt h, List.getElem?_drop]
theorem cut_set {m j i q : Nat} {cs : List Value} {v : Value} (h : q < m) (hij : j ≠ i) : cut m j (cs.set (i * m + q) v) = cut m j cs := by
  unfold cut
  apply List.ext_getElem?
  intro t
  by_cases ht : t < m
  · rw [List.getElem?_take_of_lt ht, List.getElem?_take_of_lt ht, List.getElem?_drop, List.getElem?_drop, List.getElem?_set_ne]
    rcases Nat.lt_or_gt_of_ne hij with h1 | h1
    · have : (j + 1) * m ≤ i * m := Nat.mul_le_mul_right _ h1
      rw [Nat.succ_mul] at this
      omega
    · have : (i + 1) * m ≤ j * m := Nat.mul_le_mul_right _ h1
      rw [Nat.succ_mul] at this
      omega
  · rw [List.getElem?_eq_none (by rw [List.length_take]; omega), List.getElem?_eq_none (by rw [List.length_take]; omega)]
theorem cut_self {m i q : Nat} {cs : List Value} {v : Value} (h : q < m) : cut m i (cs.set (i * m + q) v) = (cut m i cs).set q v := by
  unfold cut
  apply List.ext_getElem?
  intro t
  by_cases ht : t < m
  · rw [List.getElem?_take_of_lt ht, List.getElem?_drop, List.getElem?_set, List.getElem?_set, List.getElem?_take_of_lt ht, List.getElem?_drop, List.length_take, List.length_drop]
    by_cases e : q = t
    · rw [if_pos (by omega), if_pos e]
      by_cases e2 : i * m + q < cs.length
      · rw [if_pos e2, if_pos (by omega)]
      · rw [if_neg e2, if_neg (by omega)]
    · rw [if_neg (by omega), if_neg e]
  · rw [List.getElem?_eq_none (by rw [List.length_take]; omega), List.getElem?_eq_none (by rw [List.length_set, List.length_take]; omega)]
theorem cut_take {m j M : Nat} {cs : List Value} (hj : j < M) : cut m j (cs.take (M * m)) = cut m j cs := by
  unfold cut
  have : (j + 1) * m ≤ M * m := Nat.mul_le_mul_right _ hj
  rw [Nat.succ_mul] at this
  rw [List.drop_take, List.take_take, Nat.min_eq_left (by omega)]
theorem owns_box {w : World} {base sz n : Nat} {e : TypeId} {v : Value} {xs : List Value} (h : w.ownsRow base e sz v n xs) (hn : 0 < n) : ∃ g cap cs, v = .slice (some ⟨g, 0, none⟩) n cap ∧ n ≤ cap ∧ base ≤ g ∧ Holds w g e cs ∧ n * sz ≤ cs.length ∧ cs.take (n * sz) = xs := by
  rcases h.2 with ⟨h0, h1⟩ | ⟨g, cap, cur, hv, hb, hg, hnc, hcm, hcs, ht⟩
  · omega
  · refine ⟨g, cap, cur.toList, hv, hnc, hb, (show Holds w g e cur.toList by unfold Holds; simpa using hg), ?_, ht⟩
    have : n * sz ≤ cap * sz := Nat.mul_le_mul_right _ hnc
    simp only [Array.length_toList]
    omega
theorem LsF.cut_at {A : Type} {F : (Nat → Prop) → World → A → List Value → Prop} {m : Nat} (H : One F m) {P : Nat → Prop} {w : World} : ∀ {l : List A} {f : List Value}, LsF F P w l f → ∀ (j : Nat) (h : j < l.length), F P w l[j] (cut m j f)
  | a :: l, f, ⟨c, r, h1, h2, h3⟩, 0, h => by
    have hc := H.len h2
    unfold cut
    rw [h1, Nat.zero_mul, List.drop_zero, List.take_append_of_le_length (by omega), List.take_of_length_le (by omega)]
    exact h2
  | a :: l, f, ⟨c, r, h1, h2, h3⟩, j + 1, h => by
    have hc := H.len h2
    have := LsF.cut_at H h3 j (by simpa using h)
    have he : cut m (j + 1) f = cut m j r := by
      unfold cut
      rw [h1, Nat.succ_mul, Nat.add_comm, ← hc, ← List.drop_drop, List.drop_left]
    rw [he]
    exact this
theorem Reads.on {ops : Array Oper} {R : Type} {val : R → Nat → Value} {sl : List (Nat × Nat)} {n : Nat} {a : Act} {o : Oper} {r : R} {L : Array Bool} {b : Act} (h : Reads ops val sl n a o r L b) {j : Nat} (hk : (o.after.any fun e => Region.binds .any e && e.on == j) = true) : L.getD j false = true := by
  obtain ⟨e, he, hb⟩ := Array.any_eq_true'.1 hk
  rw [Bool.and_eq_true, beq_iff_eq] at hb
  rw [← hb.2]
  exact h.dep e he hb.1
/-- What region 12 keeps. -/
structure OfW (wr : World) (gA k : Nat) (cs : List Value) (lr lw : List Int) (r : Value × Value) (L : Array Bool) (w2 : World) : Prop where
  fr : Fr (fun q => q = gA) wr w2
  box : Holds w2 gA 86 (if L.getD 21 false then (cs.set (k * 6 + 3) r.1).set (k * 6 + 4) r.2 else if L.getD 18 false then cs.set (k * 6 + 3) r.1 else cs)
  reads : L.getD 9 false = true → RowL (From wr.heap.size) w2 1 r.1 lr.length (lr.map intV)
  writes : L.getD 15 false = true → RowL (From wr.heap.size) w2 1 r.2 lw.length (lw.map intV)
  o18 : L.getD 18 false = true → L.getD 8 false = true ∧ L.getD 14 false = true ∧ L.getD 9 false = true ∧ L.getD 15 false = true
  o21 : L.getD 21 false = true → L.getD 18 false = true
theorem OfW.pure {wr w2 : World} {gA k : Nat} {cs : List Value} {lr lw : List Int} {r : Value × Value} {L : Array Bool} (i : Nat) (h9 : i ≠ 9) (h15 : i ≠ 15) (h18 : i ≠ 18) (h21 : i ≠ 21) (hL : L.size = 22) (hi : i < 22) (h : OfW wr gA k cs lr lw r L w2) : OfW wr gA k cs lr lw r (L.setIfInBounds i true) w2 := by
  have g : ∀ j, L.getD j false = true → (L.setIfInBounds i true).getD j false = true := fun j hj => by
    by_cases e : j = i
    · subst e; exact gd_eq (by omega)
    · rw [gd_ne e]; exact hj
  refine ⟨h.fr, ?_, fun q => h.reads (by rwa [gd_ne h9.symm] at q), fun q => h.writes (by rwa [gd_ne h15.symm] at q), fun q => ?_, fun q => ?_⟩
  · rw [gd_ne h21.symm, gd_ne h18.symm]; exact h.box
  · rw [gd_ne h18.symm] at q
    obtain ⟨a, b, c, d⟩ := h.o18 q
    exact ⟨g _ a, g _ b, g _ c, g _ d⟩
  · rw [gd_ne h21.symm] at q
    exact g _ (h.o21 q)
theorem ints_one (l : List Int) : ∀ u ∈ l.map intV, u.oneCell' = true := fun u h => by
  obtain ⟨b, _, rfl⟩ := List.mem_map.1 h
  rfl
theorem keep_set {P : Nat → Prop} {w : World} {b i : Nat} {v : Value} (h : ¬ P b) : Keep P w (w.setCell ⟨b, i, none⟩ v) := fun k hk hs => Below.heap_setCell _ _ _ _ (by rintro rfl; exact h hk)
theorem sz_Ints : (Try.prog.info? 47).map (·.size) = some 1 := by kernel_rfl
theorem sz_Arcs : (Try.prog.info? 79).map (·.size) = some 1 := by kernel_rfl
/-- A graph in memory of its own, behind base. -/
def OfPost (n : PNet) (w : World) (e : Ending) (w' : World) : Prop := Below w.heap.size w w' ∧ if chk n then ∃ v, e = .returned (.tuple #[.iface 83 (.agg #[v]), .int .i64 0]) ∧ NetV (From w.heap.size) w' v n else e = .returned (.tuple #[.nilIface, .int .i64 150])
/-- What the outer loop keeps. -/
structure OutS (base gN gG M i : Nat) (v : Value) (n : PNet) (w0 w : World) : Prop where
  below : Below base w0 w
  graph : Holds w gG 83 [v]
  box : ∃ cs, Holds w gN 81 cs ∧ M * 5 ≤ cs.length ∧ (∀ (j : Nat) (h : j < n.length), j < i → NodeF (fun k => base ≤ k ∧ k ≠ gN) w n[j] (cut 5 j cs)) ∧ ∀ (j : Nat) (h : j < n.length), i ≤ j → NodeF (fun k => k < base) w n[j] (cut 5 j cs)
/-- What the inner loop keeps. -/
structure InS (base gA K k : Nat) (arcs : List PArc) (wA w : World) : Prop where
  fr : Fr (fun q => q = gA) wA w
  box : 0 < K → ∃ cs, Holds w gA 86 cs ∧ K * 6 ≤ cs.length ∧ (∀ (j : Nat) (h : j < arcs.length), j < k → ArcF (From wA.heap.size) w arcs[j] (cut 6 j cs)) ∧ ∀ (j : Nat) (h : j < arcs.length), k ≤ j → ArcF (fun k => k < base) w arcs[j] (cut 6 j cs)
theorem InS.step {base gA K k : Nat} {arcs : List PArc} {wA wr w9 : World} {cs : List Value} {a : PArc} {vr vw : Value} {r : Value × Value} (hfr : Fr (fun q => q = gA) wA wr) (hb : Holds wr gA 86 cs) (hcl : K * 6 ≤ cs.length) (hK : arcs.length = K)
    (hdone : ∀ (j : Nat) (h : j < arcs.length), j < k → ArcF (From wA.heap.size) wr arcs[j] (cut 6 j cs)) (hrest : ∀ (j : Nat) (h : j < arcs.length), k ≤ j → ArcF (fun k => k < base) wr arcs[j] (cut 6 j cs)) (hk : k < arcs.length) (ha : arcs[k] = a)
    (hcut : cut 6 k cs = [.int .i64 a.proc, .int .i64 a.to, .int .i64 a.bad, vr, vw, .int .u64 (a.turns : Int)]) (hW : OfW wr gA k cs a.reads a.writes r (Array.replicate 22 true) w9) (hbase : base ≤ gA) (hga : gA < wA.heap.size) : InS base gA K (k + 1) arcs wA w9 := by
  have hbx := hW.box
  rw [show (Array.replicate 22 true).getD 21 false = true from rfl, if_pos rfl] at hbx
  refine ⟨hfr.trans hW.fr fun _ _ h => h, fun _ => ⟨_, hbx, by simpa using hcl, fun j hj hjk => ?_, fun j hj hjk => ?_⟩⟩
  · rcases Nat.lt_or_ge j k with h | h
    · rw [cut_set (by omega) (by omega), cut_set (by omega) (by omega)]
      exact (hdone j hj h).up (fun q hq hs => hW.fr.block q hs fun e => by have hq2 : wA.heap.size ≤ q := hq; omega)
    · obtain rfl : j = k := by omega
      rw [cut_self (by omega), cut_self (by omega), hcut, ha]
      exact ⟨r.1, r.2, rfl, (hW.reads rfl).mono (Wide.from hfr.size), (hW.writes rfl).mono (Wide.from hfr.size)⟩
  · rw [cut_set (by omega) (by omega), cut_set (by omega) (by omega)]
    exact (hrest j hj (by omega)).up (fun q hq hs => hW.fr.block q hs fun e => by have hq2 : q < base := hq; omega)
theorem OutS.up {base gN gG M i : Nat} {v : Value} {n : PNet} {w0 w w' : World} (h : OutS base gN gG M i v n w0 w) (hb : Below w.heap.size w w') (hs : base ≤ w.heap.size) : OutS base gN gG M i v n w0 w' := by
  obtain ⟨cs, h1, h2, h3, h4⟩ := h.box
  exact ⟨h.below.trans (hb.mono hs), h.graph.belowAll hb, cs, h1.belowAll hb, h2, fun j hj hji => (h3 j hj hji).up (Keep.below hb), fun j hj hji => (h4 j hj hji).up (Keep.below hb)⟩
theorem InS.arcs {base gA gN K cA : Nat} {arcs : List PArc} {wA w : World} {aA : Option Addr} (h : InS base gA K K arcs wA w) (hK : arcs.length = K) (ha : 0 < K → aA = some ⟨gA, 0, none⟩) (hc : K ≤ cA ∧ cA ≤ 9223372036854775807 ∧ (aA = none → cA = 0)) (h1 : base ≤ gA) (h2 : gN < gA) (h3 : gN < wA.heap.size) (h4 : base ≤ wA.heap.size) :
    ArcsV (fun k => base ≤ k ∧ k ≠ gN) w (.slice aA K cA) arcs := by
  by_cases hk : 0 < K
  · obtain ⟨cs, hb, hcl, hdone, _⟩ := h.box hk
    refine ⟨cs.take (K * 6), ?_, ?_⟩
    · rw [hK]
      exact ⟨aA, cA, rfl, hc.1, hc.2.1, by rw [List.length_take]; omega, hc.2.2, fun _ => ⟨gA, 0, cs, _, ha hk, ⟨h1, by omega⟩, hb.r, fun j hj => by rw [Nat.zero_add, List.getElem?_take_of_lt hj]⟩⟩
    · rw [← hK]
      exact LsF.of_cut arcs cs fun j hj => (hdone j hj (by omega)).mono fun q hq _ => by
        have hq2 : wA.heap.size ≤ q := hq
        exact ⟨by omega, by omega⟩
  · obtain rfl : K = 0 := by omega
    have : arcs = [] := List.eq_nil_of_length_eq_zero hK
    subst this
    exact ⟨[], ⟨aA, cA, rfl, hc.1, hc.2.1, rfl, hc.2.2, fun h => absurd h hk⟩, rfl⟩
theorem OutS.step {base gN gG M i : Nat} {v vA : Value} {n : PNet} {w0 w : World} {x : PNode} (h : OutS base gN gG M i v n w0 w) (hi : i < n.length) (hM : n.length = M) (hx : n[i] = x) (hav : ArcsV (fun k => base ≤ k ∧ k ≠ gN) w vA x.arcs) (hb : base ≤ gN) (hg : gN < gG) :
    OutS base gN gG M (i + 1) v n w0 (w.setCell ⟨gN, i * 5, none⟩ vA) := by
  obtain ⟨cs, h1, h2, h3, h4⟩ := h.box
  refine ⟨h.below.trans ((Fr.setCell (p := ⟨gN, i * 5, none⟩) (Fr.refl (fun q => q = gN) w) (fun _ => rfl) vA).to_below (by have := h1.lt; omega) fun q hq e => by omega), h.graph.far (by show gG ≠ gN; omega) _, _, h1.put (i * 5) vA, by simpa using h2, fun j hj hji => ?_, fun j hj hji => ?_⟩
  · rcases Nat.lt_or_ge j i with hlt | hge
    · have e := cut_set (m := 5) (j := j) (i := i) (q := 0) (cs := cs) (v := vA) (by omega) (by omega)
      rw [Nat.add_zero] at e
      rw [e]
      exact (h3 j hj hlt).up (keep_set (by simp))
    · obtain rfl : j = i := by omega
      have e := cut_self (m := 5) (i := j) (q := 0) (cs := cs) (v := vA) (by omega)
      rw [Nat.add_zero] at e
      obtain ⟨va, hc, _⟩ := h4 j hj (Nat.le_refl _)
      rw [e, hc, hx]
      exact ⟨vA, rfl, hav.up (keep_set (by simp))⟩
  · have e := cut_set (m := 5) (j := j) (i := i) (q := 0) (cs := cs) (v := vA) (by omega) (by omega)
    rw [Nat.add_zero] at e
    rw [e]
    exact (h4 j hj (by omega)).up (keep_set (by omega))
theorem OutS.net {base gN gG M cN : Nat} {v : Value} {n : PNet} {w0 w : World} (h : OutS base gN gG M M v n w0 w) (hM : n.length = M) (hc : M ≤ cN ∧ cN ≤ 9223372036854775807) (hb : base ≤ gN) : NetV (From base) w (.slice (some ⟨gN, 0, none⟩) M cN) n := by
  obtain ⟨cs, h1, h2, h3, _⟩ := h.box
  refine ⟨cs.take (M * 5), ?_, ?_⟩
  · rw [hM]
    exact ⟨_, cN, rfl, hc.1, hc.2, by rw [List.length_take]; omega, (fun h => by cases h), fun _ => ⟨gN, 0, cs, _, rfl, hb, h1.r, fun j hj => by rw [Nat.zero_add, List.getElem?_take_of_lt hj]⟩⟩
  · rw [← hM]
    exact LsF.of_cut n cs fun j hj => (h3 j hj (by omega)).mono fun q hq _ => hq.1
set_option maxHeartbeats 4000000 in
set_option maxRecDepth 100000 in
theorem ofFn {P : Nat → Prop} {w : World} {n : PNet} {v : Value} (h : NetV P w v n) (hs : Small n) : Calls Try.prog 8 #[.agg #[v]] w (OfPost n w) := by
  have h := h.mono (Q := fun k => k < w.heap.size) (fun k _ hk => hk)
  have hB0 : Below w.heap.size w (w.alloc (.cells #[v] 24)) := (Below.refl _ _).alloc (Nat.le_refl _) _
  have HX0 := Lib.hid (Holds.new w 24 #[v])
  have hh0 := h.up (Keep.below hB0)
  have HCK := Lib.hid (checkFn hh0 hs)
  have HB0 := Lib.hid hB0
  have HH := Lib.hid hh0
  have HS := Lib.hid hs
  have HV := Lib.hid h
  clear h hs hB0 hh0
  go_enter Try.func8, Try.ntmps8
  go_upto_region 1 with (fail)
  obtain ⟨w0, hw0⟩ : ∃ W, W = w.alloc (.cells #[v] 24) := ⟨_, rfl⟩
  rw [← hw0] at HX0 HB0 HH HCK ⊢
  have e0 := HX0.out.cell 0
  simp only [List.getElem?_cons_zero] at e0
  clear hw0
  go_wp2_with (fail)
  refine HCK.out.mono ?_
  rintro e w1 ⟨rfl, hb1⟩
  have hB1 := HB0.out.trans (hb1.mono HB0.out.size)
  have HB1 := Lib.hid hB1
  have e1 := (HX0.out.belowAll hb1).cell 0
  simp only [List.getElem?_cons_zero] at e1
  have HH1 := Lib.hid (HH.out.up (Keep.below hb1))
  clear HCK e0 HX0 HH HB0 hb1 hB1
  by_cases hck : chk n = true
  · obtain ⟨f, hr, hg⟩ := HH1.out
    have hlen : 0 < n.length ∧ n.length ≤ 2000000 := ⟨by
      unfold chk at hck
      simp only [Bool.and_eq_true, decide_eq_true_eq] at hck
      omega, HS.out.nodes⟩
    have hCN := cloneNodesFn hr (LsF.one oneNode _ hg) hlen.2
    have HCK := Lib.hid hck
    have HG := Lib.hid hg
    have hec : errC (chk n) = .int .i64 0 := by unfold errC; rw [hck]; rfl
    rw [hec]
    obtain ⟨M, hM⟩ : ∃ M, n.length = M := ⟨_, rfl⟩
    have HN := Lib.hid hM
    rw [hM] at hlen hCN
    have HCN := Lib.hid hCN
    clear hck hr hg hM hec hCN HH1
    go_wp2_with (fail)
    refine HCN.out.mono ?_
    rintro e w2 ⟨hb2, v2, rfl, hown, hrow⟩
    have hown2 : w2.ownsRow w1.heap.size 81 5 v2 M f := by
      rcases hown with rfl | h
      · obtain ⟨_, _, he, _⟩ := hrow.form
        injection he with _ he _
        omega
      · exact h
    obtain ⟨gN, cN, cs, rfl, hMc, hge, hbox, hcl, hcf⟩ := owns_box hown2 hlen.1
    have HB2 := Lib.hid (HB1.out.trans (hb2.mono HB1.out.size))
    have hg2 := LsF.up (fun _ _ => oneNode.up (Keep.below hb2)) _ HG.out
    have HX2 := Lib.hid hbox
    have HCC : Hid (M ≤ cN ∧ cN ≤ 9223372036854775807) := by
      obtain ⟨_, _, he, h1, h2, _⟩ := hrow.form
      injection he with _ _ he
      subst he
      exact ⟨h1, h2⟩
    have HGE := Lib.hid hge
    have HCUT : Hid (∀ (j : Nat) (h : j < n.length), NodeF (fun k => k < w.heap.size) w2 n[j] (cut 5 j cs)) := fun j h => by
      have h1 := LsF.cut_at oneNode hg2 j h
      rw [← hcf, cut_take (by rw [← HN.out]; exact h)] at h1
      exact h1
    clear hcf hown hown2 hrow hge hbox hg2 HG HCN hb2 e1
    go_upto_region 5 with (fail)
    obtain ⟨w3, hw3⟩ : ∃ W, W = w2.alloc (.cells #[.slice (some ⟨gN, 0, none⟩) M cN] 83) := ⟨_, rfl⟩
    have HO0 : OutS w.heap.size gN w2.heap.size M 0 (.slice (some ⟨gN, 0, none⟩) M cN) n w w3 := by
      have hb3 : Below w2.heap.size w2 w3 := by rw [hw3]; exact (Below.refl _ _).alloc (Nat.le_refl _) _
      refine ⟨HB2.out.trans (hb3.mono HB2.out.size), by rw [hw3]; exact Holds.new w2 83 #[_], cs, HX2.out.belowAll hb3, hcl, fun j _ hj => by omega, fun j h _ => (HCUT.out j h).up (Keep.below hb3)⟩
    have HGG : Hid (w.heap.size ≤ gN ∧ gN < w2.heap.size ∧ w.heap.size ≤ w2.heap.size) := ⟨Nat.le_trans HB1.out.size HGE.out, HX2.out.lt, HB2.out.size⟩
    obtain ⟨gG, hgG⟩ : ∃ g, w2.heap.size = g := ⟨_, rfl⟩
    rw [← hw3]
    rw [hgG] at HO0 HGG ⊢
    have HO := Lib.hid HO0
    clear hw3 hgG HX2 HB2 HCUT hcl HB1 HGE
    have e0 := HO0.graph.cell 0
    simp only [List.getElem?_cons_zero] at e0
    clear HO0
    obtain ⟨hM1, hM2⟩ := hlen
    clear h
    go_wp2
    clear e0
    go_loopw [23] (fun x wr => ∃ i : Nat, x = .int .i64 (i : Int) ∧ i ≤ M ∧ Hid (OutS w.heap.size gN gG M i (.slice (some ⟨gN, 0, none⟩) M cN) n w wr)) (fun x _ => M - (intOf x).toNat)
    case atStart => exact ⟨0, rfl, Nat.zero_le _, HO⟩
    case round =>
      clear HO
      obtain ⟨i, hx, hi, HO⟩ := hrel
      subst hx
      by_cases hin : i < M
      · have hi2i : (i : Int) < (M : Int) := by omega
        have hi0i : (0 : Int) ≤ (i : Int) := by omega
        have hwii : IntKind.i64.wrap (i : Int) = (i : Int) := by rw [IntKind.wrap_i64]; omega
        have hwji : IntKind.i64.wrap ((i : Int) + 1) = (i : Int) + 1 := by rw [IntKind.wrap_i64]; omega
        have hil : i < n.length := by rw [HN.out]; exact hin
        obtain ⟨x, hx⟩ : ∃ x, n[i] = x := ⟨_, rfl⟩
        have hbo := HO.out.box
        obtain ⟨cs, hbox, hcl, hdone, hrest⟩ := hbo
        have hni := hrest i hil (Nat.le_refl _)
        rw [hx] at hni
        obtain ⟨va, hva, hav⟩ := hni
        obtain ⟨fa, hra, hga⟩ := hav
        obtain ⟨aa, ac, rfl, hac, _, _⟩ := hra.form
        obtain ⟨K, hK⟩ : ∃ K, x.arcs.length = K := ⟨_, rfl⟩
        have hkm : K ≤ 2000000 := by have := node_le hil; rw [hx, hK] at this; have := HS.out.arcs; omega
        have hCA := cloneArcsFn hra (LsF.one oneArc _ hga) (by rw [hK]; exact hkm)
        rw [hK] at hva hCA hac
        have HGA := Lib.hid hga
        have HCA := Lib.hid hCA
        have HVA := Lib.hid hva
        have HK := Lib.hid hK
        have HXX := Lib.hid hx
        have e0 := HO.out.graph.cell 0
        have e1 : wr.cell? ⟨gN, i * 5, none⟩ = some (.slice aa K ac) := by
          rw [hbox.cell, ← Nat.add_zero (i * 5), ← cut_get (m := 5) (j := i) (q := 0) (by omega), HVA.out]
          rfl
        simp only [List.getElem?_cons_zero] at e0
        clear hbox hcl hdone hrest hva hra hga hK hx hCA
        go_wp2_with (fail)
        refine HCA.out.mono ?_
        rintro e wA ⟨hbA, vA, rfl, hown, hrow⟩
        obtain ⟨aA, cA, rfl, hcA, hcA2, hcA3⟩ := hrow.form
        have hIN : ∃ gA, (0 < K → aA = some ⟨gA, 0, none⟩) ∧ wr.heap.size ≤ gA ∧ InS w.heap.size gA K 0 x.arcs wA wA ∧ (0 < K → gA < wA.heap.size) := by
          by_cases hk0 : 0 < K
          · have hown2 : wA.ownsRow wr.heap.size 86 6 (.slice aA K cA) K fa := by
              rcases hown with h | h
              · injection h with _ h _
                omega
              · exact h
            obtain ⟨gA, cA', as0, he, _, hge, hbox, hcl, hcf⟩ := owns_box hown2 hk0
            injection he with he _ _
            refine ⟨gA, fun _ => he, hge, ⟨Fr.refl _ _, fun _ => ⟨as0, hbox, hcl, fun j _ hj => by omega, fun j h _ => ?_⟩⟩, fun _ => hbox.lt⟩
            have h1 := LsF.cut_at oneArc (LsF.up (fun _ _ => oneArc.up (Keep.below hbA)) _ HGA.out) j h
            rw [← hcf, cut_take (by rw [← HK.out]; exact h)] at h1
            exact h1
          · exact ⟨wr.heap.size, fun h => absurd h hk0, Nat.le_refl _, ⟨Fr.refl _ _, fun h => absurd h hk0⟩, fun h => absurd h hk0⟩
        obtain ⟨gA, haA, hgA, hIN, hgA2⟩ := hIN
        have HIN := Lib.hid hIN
        have HSL : Hid (K ≤ cA ∧ cA ≤ 9223372036854775807 ∧ (aA = none → cA = 0)) := ⟨hcA, hcA2, hcA3⟩
        have HBA := Lib.hid hbA
        have HGW : Hid (gG ≤ wr.heap.size) := Nat.le_of_lt HO.out.graph.lt
        have HAA := Lib.hid haA
        have HGA1 := Lib.hid hgA
        have HGA2 := Lib.hid hgA2
        clear hIN hbA hgA hgA2 haA hown hrow hcA hcA2 hcA3 HCA HGA e0 e1
        go_wp2
        go_loopw [36] (fun z wx => ∃ k : Nat, z = .int .i64 (k : Int) ∧ k ≤ K ∧ Hid (InS w.heap.size gA K k x.arcs wA wx)) (fun z _ => K - (intOf z).toNat)
        case atStart => exact ⟨0, rfl, Nat.zero_le _, HIN⟩
        case round =>
          clear HIN
          obtain ⟨k, hz, hk, HIN⟩ := hrel
          subst hz
          by_cases hkn : k < K
          · have hkl : k < x.arcs.length := by rw [HK.out]; exact hkn
            have hk0 : 0 < K := by omega
            obtain ⟨cs, hbox, hcl, hdone, hrest⟩ := HIN.out.box hk0
            have hrk := hrest k hkl (Nat.le_refl _)
            obtain ⟨a, ha⟩ : ∃ a, x.arcs[k] = a := ⟨_, rfl⟩
            rw [ha] at hrk
            obtain ⟨vr, vw, hcut, pr, pw⟩ := hrk
            have hlr : a.reads.length ≤ 2000000 ∧ a.writes.length ≤ 2000000 := by
              have := HS.out.reads i hil k (by rw [HXX.out]; exact hkl)
              simp only [HXX.out, ha] at this
              exact this
            have h3 : cs[k * 6 + 3]? = some vr := by rw [← cut_get (m := 6) (j := k) (q := 3) (by omega), hcut]; rfl
            have h4 : cs[k * 6 + 4]? = some vw := by rw [← cut_get (m := 6) (j := k) (q := 4) (by omega), hcut]; rfl
            have HC3 := Lib.hid h3
            have HC4 := Lib.hid h4
            have HKL3 : Hid (k * 6 + 3 < cs.length) := (by omega : k * 6 + 3 < cs.length)
            have HKL4 : Hid (k * 6 + 4 < cs.length) := (by omega : k * 6 + 4 < cs.length)
            have HCS := Lib.hid hbox
            have HGA : Hid (w.heap.size ≤ gA) := Nat.le_trans (Nat.le_trans HGG.out.2.2 HGW.out) HGA1.out
            have HGAA := HGA2
            have HGA2 : Hid (gA < wr.heap.size) := hbox.lt
            have HRR := Lib.hid pr
            have HRWW := Lib.hid pw
            have HLR := Lib.hid hlr.1
            have HLW := Lib.hid hlr.2
            have HSTEP := Lib.hid (fun (r : Value × Value) (w9 : World) (hW : OfW wr gA k cs a.reads a.writes r (Array.replicate 22 true) w9) => InS.step HIN.out.fr hbox hcl HK.out hdone hrest hkl ha hcut hW HGA.out (HGAA.out hk0))
            have haA := HAA.out hk0
            subst haA
            obtain ⟨lr, hlr1⟩ : ∃ l, a.reads = l := ⟨_, rfl⟩
            obtain ⟨lw, hlw1⟩ : ∃ l, a.writes = l := ⟨_, rfl⟩
            rw [hlr1, hlw1] at HSTEP
            rw [hlr1] at HLR HRR
            rw [hlw1] at HLW HRWW
            clear hbox hcl hdone hrest hcut pr pw hlr ha h3 h4 HAA hlr1 hlw1
            have hi2k : (k : Int) < (K : Int) := by omega
            have hi0k : (0 : Int) ≤ (k : Int) := by omega
            have hwik : IntKind.i64.wrap (k : Int) = (k : Int) := by rw [IntKind.wrap_i64]; omega
            have hwjk : IntKind.i64.wrap ((k : Int) + 1) = (k : Int) + 1 := by rw [IntKind.wrap_i64]; omega
            go_upto_region 12 with (fail)
            refine wp_region_rho (fun (r : Value × Value) j => ([(.slice (some ⟨gA, 0, none⟩) K cA), (.int .i64 (k : Int)), (.slice (some ⟨gA, 0, none⟩) K cA), (.int .i64 (k : Int)), (.slice (some ⟨gA, 0, none⟩) K cA), (.int .i64 (k : Int)), (.pointer (some ⟨gA, k * 6, none⟩)), (.pointer (some ⟨gA, k * 6 + 3, none⟩)), (vr), (r.1), (.slice (some ⟨gA, 0, none⟩) K cA), (.int .i64 (k : Int)), (.pointer (some ⟨gA, k * 6, none⟩)), (.pointer (some ⟨gA, k * 6 + 4, none⟩)), (vw), (r.2), (.pointer (some ⟨gA, k * 6, none⟩)), (.pointer (some ⟨gA, k * 6 + 3, none⟩)), (undef), (.pointer (some ⟨gA, k * 6, none⟩)), (.pointer (some ⟨gA, k * 6 + 4, none⟩)), (undef)] : List Value).getD j undef) (fun r L w2 => OfW wr gA k cs lr lw r L w2) [(0, 39), (1, 40), (2, 41), (3, 42), (4, 43), (5, 44), (6, 45), (7, 46), (8, 47), (9, 48), (10, 49), (11, 50), (12, 51), (13, 52), (14, 53), (15, 54), (16, 55), (17, 56), (19, 57), (20, 58)] 70 rfl (by kernel_rfl) (by kernel_rfl) (by kernel_rfl) (.slice none 0 0, .slice none 0 0) ⟨(Fr.refl _ _).drew, by simpa using (show Holds wr.drew gA 86 cs from HCS.out.of_eq rfl), (fun h => by simp at h), (fun h => by simp at h), (fun h => by simp at h), (fun h => by simp at h)⟩ (fun i hi => ?_) (fun r w9 hW9 => ?_)
            · have hi2 : i < 22 := hi
              clear hi
              have hi3 : i = 0 ∨ i = 1 ∨ i = 2 ∨ i = 3 ∨ i = 4 ∨ i = 5 ∨ i = 6 ∨ i = 7 ∨ i = 8 ∨ i = 9 ∨ i = 10 ∨ i = 11 ∨ i = 12 ∨ i = 13 ∨ i = 14 ∨ i = 15 ∨ i = 16 ∨ i = 17 ∨ i = 18 ∨ i = 19 ∨ i = 20 ∨ i = 21 := by omega
              clear hi2
              rcases hi3 with rfl | rfl | rfl | rfl | rfl | rfl | rfl | rfl | rfl | rfl | rfl | rfl | rfl | rfl | rfl | rfl | rfl | rfl | rfl | rfl | rfl | rfl
              · exact RhoOp.pure rfl (fun r L b w2 hl hR hW => by
                  have h7 : b.eval (.tmp 7) = .slice (some ⟨gA, 0, none⟩) K cA := (hR.old (by decide) (by kernel_rfl)).trans rfl
                  simp only [Act.eval, Array.getD_eq_getD_getElem?] at h7
                  show (execOp b.eval _).run _ _ = .ok (.value (.slice (some ⟨gA, 0, none⟩) K cA)) _
                  unfold execOp
                  simp [go_sem, h7]) (fun r L w2 hs h => h.pure 0 (by decide) (by decide) (by decide) (by decide) hs (by decide))
              · exact RhoOp.pure rfl (fun r L b w2 hl hR hW => by
                  have h8 : b.eval (.tmp 8) = .int .i64 (k : Int) := (hR.old (by decide) (by kernel_rfl)).trans rfl
                  simp only [Act.eval, Array.getD_eq_getD_getElem?] at h8
                  show (execOp b.eval _).run _ _ = .ok (.value (.int .i64 (k : Int))) _
                  unfold execOp
                  simp [go_sem, h8]) (fun r L w2 hs h => h.pure 1 (by decide) (by decide) (by decide) (by decide) hs (by decide))
              · exact RhoOp.pure rfl (fun r L b w2 hl hR hW => by
                  have h7 : b.eval (.tmp 7) = .slice (some ⟨gA, 0, none⟩) K cA := (hR.old (by decide) (by kernel_rfl)).trans rfl
                  simp only [Act.eval, Array.getD_eq_getD_getElem?] at h7
                  show (execOp b.eval _).run _ _ = .ok (.value (.slice (some ⟨gA, 0, none⟩) K cA)) _
                  unfold execOp
                  simp [go_sem, h7]) (fun r L w2 hs h => h.pure 2 (by decide) (by decide) (by decide) (by decide) hs (by decide))
              · exact RhoOp.pure rfl (fun r L b w2 hl hR hW => by
                  have h8 : b.eval (.tmp 8) = .int .i64 (k : Int) := (hR.old (by decide) (by kernel_rfl)).trans rfl
                  simp only [Act.eval, Array.getD_eq_getD_getElem?] at h8
                  show (execOp b.eval _).run _ _ = .ok (.value (.int .i64 (k : Int))) _
                  unfold execOp
                  simp [go_sem, h8]) (fun r L w2 hs h => h.pure 3 (by decide) (by decide) (by decide) (by decide) hs (by decide))
              · exact RhoOp.pure rfl (fun r L b w2 hl hR hW => by
                  have h7 : b.eval (.tmp 7) = .slice (some ⟨gA, 0, none⟩) K cA := (hR.old (by decide) (by kernel_rfl)).trans rfl
                  simp only [Act.eval, Array.getD_eq_getD_getElem?] at h7
                  show (execOp b.eval _).run _ _ = .ok (.value (.slice (some ⟨gA, 0, none⟩) K cA)) _
                  unfold execOp
                  simp [go_sem, h7]) (fun r L w2 hs h => h.pure 4 (by decide) (by decide) (by decide) (by decide) hs (by decide))
              · exact RhoOp.pure rfl (fun r L b w2 hl hR hW => by
                  have h8 : b.eval (.tmp 8) = .int .i64 (k : Int) := (hR.old (by decide) (by kernel_rfl)).trans rfl
                  simp only [Act.eval, Array.getD_eq_getD_getElem?] at h8
                  show (execOp b.eval _).run _ _ = .ok (.value (.int .i64 (k : Int))) _
                  unfold execOp
                  simp [go_sem, h8]) (fun r L w2 hs h => h.pure 5 (by decide) (by decide) (by decide) (by decide) hs (by decide))
              · exact RhoOp.pure rfl (fun r L b w2 hl hR hW => by
                  have h43 : b.eval (.tmp 43) = .slice (some ⟨gA, 0, none⟩) K cA := hR.of (j := 4) (by decide) (by kernel_rfl)
                  have h44 : b.eval (.tmp 44) = .int .i64 (k : Int) := hR.of (j := 5) (by decide) (by kernel_rfl)
                  simp only [Act.eval, Array.getD_eq_getD_getElem?] at h43 h44
                  show (execOp b.eval _).run _ _ = .ok (.value (.pointer (some ⟨gA, k * 6, none⟩))) _
                  unfold execOp
                  simp [go_sem, h43, h44, hi0k, hi2k, hwik]) (fun r L w2 hs h => h.pure 6 (by decide) (by decide) (by decide) (by decide) hs (by decide))
              · exact RhoOp.pure rfl (fun r L b w2 hl hR hW => by
                  have h45 : b.eval (.tmp 45) = .pointer (some ⟨gA, k * 6, none⟩) := hR.of (j := 6) (by decide) (by kernel_rfl)
                  simp only [Act.eval, Array.getD_eq_getD_getElem?] at h45
                  show (execOp b.eval _).run _ _ = .ok (.value (.pointer (some ⟨gA, k * 6 + 3, none⟩))) _
                  unfold execOp
                  simp [go_sem, h45]) (fun r L w2 hs h => h.pure 7 (by decide) (by decide) (by decide) (by decide) hs (by decide))
              · exact RhoOp.pure rfl (fun r L b w2 hl hR hW => by
                  have h18 : L.getD 18 false = false := by
                    cases hq : L.getD 18 false with
                    | false => rfl
                    | true => have := (hW.o18 hq).1; rw [hl] at this; cases this
                  have h21 : L.getD 21 false = false := by
                    cases hq : L.getD 21 false with
                    | false => rfl
                    | true => have := hW.o21 hq; rw [h18] at this; cases this
                  have hbx := hW.box
                  rw [h18, h21] at hbx
                  have e : w2.cell? ⟨gA, k * 6 + 3, none⟩ = some vr := (hbx.cell _).trans HC3.out
                  have h46 : b.eval (.tmp 46) = .pointer (some ⟨gA, k * 6 + 3, none⟩) := hR.of (j := 7) (by decide) (by kernel_rfl)
                  simp only [Act.eval, Array.getD_eq_getD_getElem?] at h46
                  show (execOp b.eval _).run _ _ = .ok (.value (vr)) _
                  unfold execOp
                  simp [go_sem, h46, e]) (fun r L w2 hs h => h.pure 8 (by decide) (by decide) (by decide) (by decide) hs (by decide))
              · exact RhoOp.call (f := 24) rfl (fun r L b w2 hs hl hR hW => by
                  have h47 : b.eval (.tmp 47) = vr := hR.of (j := 8) (by decide) (by kernel_rfl)
                  simp only [Act.eval, Array.getD_eq_getD_getElem?] at h47
                  refine ⟨#[vr], ?_, ?_⟩
                  · unfold execOp
                    simp [go_sem, h47]
                  · have h18 : L.getD 18 false = false := by
                      cases hq : L.getD 18 false with
                      | false => rfl
                      | true => have := (hW.o18 hq).2.2.1; rw [hl] at this; cases this
                    have h21 : L.getD 21 false = false := by
                      cases hq : L.getD 21 false with
                      | false => rfl
                      | true => have := hW.o21 hq; rw [h18] at this; cases this
                    refine (cloneIntsFn (HRR.out.up (fun q hq hs => hW.fr.block q hs fun e => by have := HGA.out; have hq2 : q < w.heap.size := hq; omega)) (ints_one _) HLR.out).mono fun e w3 h => ?_
                    obtain ⟨hb, v, he, _, hrow⟩ := h
                    refine ⟨(v, r.2), fun j hj => ?_, he, ⟨hW.fr.trans (Fr.of_below hb _) fun _ _ h => h, ?_, ?_, ?_, ?_, ?_⟩⟩
                    · match j, hj with
                      | 9, hj => rw [hl] at hj; cases hj
                      | 0, _ => rfl
                      | 1, _ => rfl
                      | 2, _ => rfl
                      | 3, _ => rfl
                      | 4, _ => rfl
                      | 5, _ => rfl
                      | 6, _ => rfl
                      | 7, _ => rfl
                      | 8, _ => rfl
                      | 10, _ => rfl
                      | 11, _ => rfl
                      | 12, _ => rfl
                      | 13, _ => rfl
                      | 14, _ => rfl
                      | 15, _ => rfl
                      | 16, _ => rfl
                      | 17, _ => rfl
                      | 18, _ => rfl
                      | 19, _ => rfl
                      | 20, _ => rfl
                      | 21, _ => rfl
                      | j + 22, _ => rfl
                    · have hbx := hW.box
                      rw [h18, h21] at hbx
                      rw [gd_ne (by decide), gd_ne (by decide), h18, h21]
                      exact hbx.belowAll hb
                    · exact fun _ => hrow.mono (Wide.from hW.fr.size)
                    · intro q
                      rw [gd_ne (by decide)] at q
                      exact (hW.writes q).up (Keep.below hb)
                    · intro q
                      rw [gd_ne (by decide)] at q
                      rw [h18] at q; cases q
                    · intro q
                      rw [gd_ne (by decide)] at q
                      rw [h21] at q; cases q)
              · exact RhoOp.pure rfl (fun r L b w2 hl hR hW => by
                  have h7 : b.eval (.tmp 7) = .slice (some ⟨gA, 0, none⟩) K cA := (hR.old (by decide) (by kernel_rfl)).trans rfl
                  simp only [Act.eval, Array.getD_eq_getD_getElem?] at h7
                  show (execOp b.eval _).run _ _ = .ok (.value (.slice (some ⟨gA, 0, none⟩) K cA)) _
                  unfold execOp
                  simp [go_sem, h7]) (fun r L w2 hs h => h.pure 10 (by decide) (by decide) (by decide) (by decide) hs (by decide))
              · exact RhoOp.pure rfl (fun r L b w2 hl hR hW => by
                  have h8 : b.eval (.tmp 8) = .int .i64 (k : Int) := (hR.old (by decide) (by kernel_rfl)).trans rfl
                  simp only [Act.eval, Array.getD_eq_getD_getElem?] at h8
                  show (execOp b.eval _).run _ _ = .ok (.value (.int .i64 (k : Int))) _
                  unfold execOp
                  simp [go_sem, h8]) (fun r L w2 hs h => h.pure 11 (by decide) (by decide) (by decide) (by decide) hs (by decide))
              · exact RhoOp.pure rfl (fun r L b w2 hl hR hW => by
                  have h49 : b.eval (.tmp 49) = .slice (some ⟨gA, 0, none⟩) K cA := hR.of (j := 10) (by decide) (by kernel_rfl)
                  have h50 : b.eval (.tmp 50) = .int .i64 (k : Int) := hR.of (j := 11) (by decide) (by kernel_rfl)
                  simp only [Act.eval, Array.getD_eq_getD_getElem?] at h49 h50
                  show (execOp b.eval _).run _ _ = .ok (.value (.pointer (some ⟨gA, k * 6, none⟩))) _
                  unfold execOp
                  simp [go_sem, h49, h50, hi0k, hi2k, hwik]) (fun r L w2 hs h => h.pure 12 (by decide) (by decide) (by decide) (by decide) hs (by decide))
              · exact RhoOp.pure rfl (fun r L b w2 hl hR hW => by
                  have h51 : b.eval (.tmp 51) = .pointer (some ⟨gA, k * 6, none⟩) := hR.of (j := 12) (by decide) (by kernel_rfl)
                  simp only [Act.eval, Array.getD_eq_getD_getElem?] at h51
                  show (execOp b.eval _).run _ _ = .ok (.value (.pointer (some ⟨gA, k * 6 + 4, none⟩))) _
                  unfold execOp
                  simp [go_sem, h51]) (fun r L w2 hs h => h.pure 13 (by decide) (by decide) (by decide) (by decide) hs (by decide))
              · exact RhoOp.pure rfl (fun r L b w2 hl hR hW => by
                  have h18 : L.getD 18 false = false := by
                    cases hq : L.getD 18 false with
                    | false => rfl
                    | true => have := (hW.o18 hq).2.1; rw [hl] at this; cases this
                  have h21 : L.getD 21 false = false := by
                    cases hq : L.getD 21 false with
                    | false => rfl
                    | true => have := hW.o21 hq; rw [h18] at this; cases this
                  have hbx := hW.box
                  rw [h18, h21] at hbx
                  have e : w2.cell? ⟨gA, k * 6 + 4, none⟩ = some vw := (hbx.cell _).trans HC4.out
                  have h52 : b.eval (.tmp 52) = .pointer (some ⟨gA, k * 6 + 4, none⟩) := hR.of (j := 13) (by decide) (by kernel_rfl)
                  simp only [Act.eval, Array.getD_eq_getD_getElem?] at h52
                  show (execOp b.eval _).run _ _ = .ok (.value (vw)) _
                  unfold execOp
                  simp [go_sem, h52, e]) (fun r L w2 hs h => h.pure 14 (by decide) (by decide) (by decide) (by decide) hs (by decide))
              · exact RhoOp.call (f := 24) rfl (fun r L b w2 hs hl hR hW => by
                  have h53 : b.eval (.tmp 53) = vw := hR.of (j := 14) (by decide) (by kernel_rfl)
                  simp only [Act.eval, Array.getD_eq_getD_getElem?] at h53
                  refine ⟨#[vw], ?_, ?_⟩
                  · unfold execOp
                    simp [go_sem, h53]
                  · have h18 : L.getD 18 false = false := by
                      cases hq : L.getD 18 false with
                      | false => rfl
                      | true => have := (hW.o18 hq).2.2.2; rw [hl] at this; cases this
                    have h21 : L.getD 21 false = false := by
                      cases hq : L.getD 21 false with
                      | false => rfl
                      | true => have := hW.o21 hq; rw [h18] at this; cases this
                    refine (cloneIntsFn (HRWW.out.up (fun q hq hs => hW.fr.block q hs fun e => by have := HGA.out; have hq2 : q < w.heap.size := hq; omega)) (ints_one _) HLW.out).mono fun e w3 h => ?_
                    obtain ⟨hb, v, he, _, hrow⟩ := h
                    refine ⟨(r.1, v), fun j hj => ?_, he, ⟨hW.fr.trans (Fr.of_below hb _) fun _ _ h => h, ?_, ?_, ?_, ?_, ?_⟩⟩
                    · match j, hj with
                      | 15, hj => rw [hl] at hj; cases hj
                      | 0, _ => rfl
                      | 1, _ => rfl
                      | 2, _ => rfl
                      | 3, _ => rfl
                      | 4, _ => rfl
                      | 5, _ => rfl
                      | 6, _ => rfl
                      | 7, _ => rfl
                      | 8, _ => rfl
                      | 9, _ => rfl
                      | 10, _ => rfl
                      | 11, _ => rfl
                      | 12, _ => rfl
                      | 13, _ => rfl
                      | 14, _ => rfl
                      | 16, _ => rfl
                      | 17, _ => rfl
                      | 18, _ => rfl
                      | 19, _ => rfl
                      | 20, _ => rfl
                      | 21, _ => rfl
                      | j + 22, _ => rfl
                    · have hbx := hW.box
                      rw [h18, h21] at hbx
                      rw [gd_ne (by decide), gd_ne (by decide), h18, h21]
                      exact hbx.belowAll hb
                    · intro q
                      rw [gd_ne (by decide)] at q
                      exact (hW.reads q).up (Keep.below hb)
                    · exact fun _ => hrow.mono (Wide.from hW.fr.size)
                    · intro q
                      rw [gd_ne (by decide)] at q
                      rw [h18] at q; cases q
                    · intro q
                      rw [gd_ne (by decide)] at q
                      rw [h21] at q; cases q)
              · exact RhoOp.pure rfl (fun r L b w2 hl hR hW => by
                  have h39 : b.eval (.tmp 39) = .slice (some ⟨gA, 0, none⟩) K cA := hR.of (j := 0) (by decide) (by kernel_rfl)
                  have h40 : b.eval (.tmp 40) = .int .i64 (k : Int) := hR.of (j := 1) (by decide) (by kernel_rfl)
                  simp only [Act.eval, Array.getD_eq_getD_getElem?] at h39 h40
                  show (execOp b.eval _).run _ _ = .ok (.value (.pointer (some ⟨gA, k * 6, none⟩))) _
                  unfold execOp
                  simp [go_sem, h39, h40, hi0k, hi2k, hwik]) (fun r L w2 hs h => h.pure 16 (by decide) (by decide) (by decide) (by decide) hs (by decide))
              · exact RhoOp.pure rfl (fun r L b w2 hl hR hW => by
                  have h55 : b.eval (.tmp 55) = .pointer (some ⟨gA, k * 6, none⟩) := hR.of (j := 16) (by decide) (by kernel_rfl)
                  simp only [Act.eval, Array.getD_eq_getD_getElem?] at h55
                  show (execOp b.eval _).run _ _ = .ok (.value (.pointer (some ⟨gA, k * 6 + 3, none⟩))) _
                  unfold execOp
                  simp [go_sem, h55]) (fun r L w2 hs h => h.pure 17 (by decide) (by decide) (by decide) (by decide) hs (by decide))
              · exact RhoOp.store rfl rfl (fun r L b w2 hs hl hR hW => by
                  have h21 : L.getD 21 false = false := by
                    cases hq : L.getD 21 false with
                    | false => rfl
                    | true => have := hW.o21 hq; rw [hl] at this; cases this
                  have hbx := hW.box
                  rw [hl, h21] at hbx
                  have hrow := hW.reads (hR.on (j := 9) (by kernel_rfl))
                  have hone := hrow.cell1
                  have hcl : r.1.cells = #[r.1] := by obtain ⟨_, _, he, _⟩ := hrow.form; rw [he]; rfl
                  have hst := store1 (P := Try.prog) (W := w2) (b := gA) (i := k * 6 + 3) (t := 86) (ty := 47) (cs := cs) (v := r.1) hbx (by first | exact HKL3.out | (simp; exact HKL3.out)) sz_Ints hcl hone
                  have h56 : b.eval (.tmp 56) = .pointer (some ⟨gA, k * 6 + 3, none⟩) := hR.of (j := 17) (by decide) (by kernel_rfl)
                  have h48 : b.eval (.tmp 48) = r.1 := hR.of (j := 9) (by decide) (by kernel_rfl)
                  simp only [Act.eval, Array.getD_eq_getD_getElem?] at h56 h48
                  refine ⟨r, w2.setCell ⟨gA, k * 6 + 3, none⟩ r.1, fun _ _ => rfl, ?_, ?_⟩
                  · show (execOp b.eval _).run _ _ = .ok .skip _
                    unfold execOp
                    simp [Act.eval, h56, h48, Sem.run_bind, hst]
                  · refine ⟨Fr.setCell (F := fun q => q = gA) (p := ⟨gA, k * 6 + 3, none⟩) hW.fr (fun _ => rfl) _, ?_, ?_, ?_, ?_, ?_⟩
                    · rw [gd_ne (by decide), gd_eq (by rw [hs]; decide), h21]
                      exact hbx.put _ _
                    · intro q
                      rw [gd_ne (by decide)] at q
                      exact (hW.reads q).up (keep_set (by have := HGA2.out; show ¬ _ ≤ _; omega))
                    · intro q
                      rw [gd_ne (by decide)] at q
                      exact (hW.writes q).up (keep_set (by have := HGA2.out; show ¬ _ ≤ _; omega))
                    · intro _
                      refine ⟨?_, ?_, ?_, ?_⟩ <;> rw [gd_ne (by decide)] <;> first | exact hR.on (j := 8) (by kernel_rfl) | exact hR.on (j := 14) (by kernel_rfl) | exact hR.on (j := 9) (by kernel_rfl) | exact hR.on (j := 15) (by kernel_rfl)
                    · intro q
                      rw [gd_ne (by decide)] at q
                      rw [h21] at q; cases q)
              · exact RhoOp.pure rfl (fun r L b w2 hl hR hW => by
                  have h41 : b.eval (.tmp 41) = .slice (some ⟨gA, 0, none⟩) K cA := hR.of (j := 2) (by decide) (by kernel_rfl)
                  have h42 : b.eval (.tmp 42) = .int .i64 (k : Int) := hR.of (j := 3) (by decide) (by kernel_rfl)
                  simp only [Act.eval, Array.getD_eq_getD_getElem?] at h41 h42
                  show (execOp b.eval _).run _ _ = .ok (.value (.pointer (some ⟨gA, k * 6, none⟩))) _
                  unfold execOp
                  simp [go_sem, h41, h42, hi0k, hi2k, hwik]) (fun r L w2 hs h => h.pure 19 (by decide) (by decide) (by decide) (by decide) hs (by decide))
              · exact RhoOp.pure rfl (fun r L b w2 hl hR hW => by
                  have h57 : b.eval (.tmp 57) = .pointer (some ⟨gA, k * 6, none⟩) := hR.of (j := 19) (by decide) (by kernel_rfl)
                  simp only [Act.eval, Array.getD_eq_getD_getElem?] at h57
                  show (execOp b.eval _).run _ _ = .ok (.value (.pointer (some ⟨gA, k * 6 + 4, none⟩))) _
                  unfold execOp
                  simp [go_sem, h57]) (fun r L w2 hs h => h.pure 20 (by decide) (by decide) (by decide) (by decide) hs (by decide))
              · exact RhoOp.store rfl rfl (fun r L b w2 hs hl hR hW => by
                  have h18 : L.getD 18 false = true := hR.on (j := 18) (by kernel_rfl)
                  have hbx := hW.box
                  rw [hl, h18] at hbx
                  have hrow := hW.writes (hR.on (j := 15) (by kernel_rfl))
                  have hone := hrow.cell1
                  have hcl : r.2.cells = #[r.2] := by obtain ⟨_, _, he, _⟩ := hrow.form; rw [he]; rfl
                  have hst := store1 (P := Try.prog) (W := w2) (b := gA) (i := k * 6 + 4) (t := 86) (ty := 47) (cs := (cs.set (k * 6 + 3) r.1)) (v := r.2) hbx (by first | exact HKL4.out | (simp; exact HKL4.out)) sz_Ints hcl hone
                  have h58 : b.eval (.tmp 58) = .pointer (some ⟨gA, k * 6 + 4, none⟩) := hR.of (j := 20) (by decide) (by kernel_rfl)
                  have h54 : b.eval (.tmp 54) = r.2 := hR.of (j := 15) (by decide) (by kernel_rfl)
                  simp only [Act.eval, Array.getD_eq_getD_getElem?] at h58 h54
                  refine ⟨r, w2.setCell ⟨gA, k * 6 + 4, none⟩ r.2, fun _ _ => rfl, ?_, ?_⟩
                  · show (execOp b.eval _).run _ _ = .ok .skip _
                    unfold execOp
                    simp [Act.eval, h58, h54, Sem.run_bind, hst]
                  · refine ⟨Fr.setCell (F := fun q => q = gA) (p := ⟨gA, k * 6 + 4, none⟩) hW.fr (fun _ => rfl) _, ?_, ?_, ?_, ?_, ?_⟩
                    · rw [gd_eq (by rw [hs]; decide)]
                      exact hbx.put _ _
                    · intro q
                      rw [gd_ne (by decide)] at q
                      exact (hW.reads q).up (keep_set (by have := HGA2.out; show ¬ _ ≤ _; omega))
                    · intro q
                      rw [gd_ne (by decide)] at q
                      exact (hW.writes q).up (keep_set (by have := HGA2.out; show ¬ _ ≤ _; omega))
                    · intro q
                      obtain ⟨a, b, c, d⟩ := hW.o18 h18
                      refine ⟨?_, ?_, ?_, ?_⟩ <;> rw [gd_ne (by decide)] <;> first | exact a | exact b | exact c | exact d
                    · intro _
                      rw [gd_ne (by decide)]
                      exact h18)
            · refine puts_as (ps := [(0, 39, .slice (some ⟨gA, 0, none⟩) K cA), (1, 40, .int .i64 (k : Int)), (2, 41, .slice (some ⟨gA, 0, none⟩) K cA), (3, 42, .int .i64 (k : Int)), (4, 43, .slice (some ⟨gA, 0, none⟩) K cA), (5, 44, .int .i64 (k : Int)), (6, 45, .pointer (some ⟨gA, k * 6, none⟩)), (7, 46, .pointer (some ⟨gA, k * 6 + 3, none⟩)), (8, 47, vr), (9, 48, r.1), (10, 49, .slice (some ⟨gA, 0, none⟩) K cA), (11, 50, .int .i64 (k : Int)), (12, 51, .pointer (some ⟨gA, k * 6, none⟩)), (13, 52, .pointer (some ⟨gA, k * 6 + 4, none⟩)), (14, 53, vw), (15, 54, r.2), (16, 55, .pointer (some ⟨gA, k * 6, none⟩)), (17, 56, .pointer (some ⟨gA, k * 6 + 3, none⟩)), (19, 57, .pointer (some ⟨gA, k * 6, none⟩)), (20, 58, .pointer (some ⟨gA, k * 6 + 4, none⟩))]) rfl ?_
              simp only [puts, Act.put, List.setIfInBounds_toArray, List.set_cons_zero, List.set_cons_succ]
              have hI9 := HSTEP.out r w9 hW9
              have HI9 := Lib.hid hI9
              clear hI9 hW9 HSTEP
              go_wp2
              refine ⟨⟨k + 1, by simp, by omega, HI9⟩, ?_⟩
              simp [intOf]
              omega
          · obtain rfl : k = K := by omega
            have HBX : Hid (Below _ _ wr) := HBA.out.trans (HIN.out.fr.to_below HBA.out.size (fun q hq e => by have := HGA1.out; omega))
            have HO2 := HO.out.up HBX.out HO.out.below.size
            have hav := InS.arcs (gN := gN) HIN.out HK.out HAA.out HSL.out (by have := HGG.out; have := HGW.out; have := HGA1.out; omega) (by have := HGG.out; have := HGW.out; have := HGA1.out; omega) (by have := HGG.out; have := HGW.out; have := HBA.out.size; omega) (by have := HGG.out; have := HGW.out; have := HBA.out.size; omega)
            have HST := Lib.hid (HO2.step hil HN.out HXX.out hav HGG.out.1 HGG.out.2.1)
            obtain ⟨cs, hbox, hcl, _, _⟩ := HO2.box
            have e0 := HO2.graph.cell 0
            simp only [List.getElem?_cons_zero] at e0
            have hic : i * 5 < cs.length := by omega
            clear HO2 hav HBX
            go_wp2_with (refine wpList_store1 rfl 79 _ _ rfl gN (i * 5) (.slice aA k cA) rfl rfl hbox hic sz_Arcs rfl rfl ?_)
            refine Named.mk (fun w4 hW4 => ?_)
            have hst := HST.out
            have HO4 : Hid (OutS w.heap.size gN gG M (i + 1) (.slice (some ⟨gN, 0, none⟩) M cN) n w w4) := by rw [hW4]; exact hst
            clear hst HST hW4 hbox hcl hic e0
            go_wp2
            refine ⟨⟨i + 1, by simp, by omega, HO4⟩, ?_⟩
            simp [intOf]
            omega
      · obtain rfl : i = M := by omega
        have e0 := HO.out.graph.cell 0
        simp only [List.getElem?_cons_zero] at e0
        have HF : Hid (OfPost n w (.returned (.tuple #[.iface 83 (.agg #[.slice (some ⟨gN, 0, none⟩) i cN]), .int .i64 0])) wr) := ⟨HO.out.below, by
          rw [if_pos HCK.out]
          exact ⟨_, rfl, HO.out.net HN.out HCC.out HGG.out.1⟩⟩
        clear HO
        go_wp2
        go_ret2
        exact HF.out
  · have hck' : chk n = false := by simpa using hck
    have HF : Hid (OfPost n w (.returned (.tuple #[.nilIface, .int .i64 150])) w1) := ⟨HB1.out, by rw [hck']; simp⟩
    have hec : errC (chk n) = .int .i64 150 := by unfold errC; rw [hck']; rfl
    rw [hec]
    go_wp2
    go_ret2
    exact HF.out
end Go.Proofs.Ytpednhcfkjjcpaa
