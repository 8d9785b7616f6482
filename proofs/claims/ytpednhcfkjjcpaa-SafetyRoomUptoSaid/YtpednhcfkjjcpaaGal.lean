/- The walk of the statements' all at any system (printed by mkgal.py out of XAll and XAlw). -/
import Derived.Test.YtpednhcfkjjcpaaGmv
import Derived.Test.YtpednhcfkjjcpaaAlw
namespace Go.Proofs.Ytpednhcfkjjcpaa.G
open Go.RowKit Go.Maps
set_option linter.unusedVariables false
set_option linter.unusedSimpArgs false
attribute [local go_sem] Oper.semAt_some run_makeMap

/-- A move whose rows may be written into. -/
def MovG (P : Nat → Prop) (w : World) (a : PMove) (c : List Value) : Prop := ∃ vr vw, c = mvC a vr vw ∧ (RowL P w 1 vr a.reads.length (a.reads.map intV) ∧ SI P w vr) ∧ RowL P w 1 vw a.writes.length (a.writes.map intV) ∧ SI P w vw
theorem MovG.mono {P Q : Nat → Prop} {w : World} (hl : Wide P Q w) {a : PMove} {c : List Value} (h : MovG P w a c) : MovG Q w a c := by
  obtain ⟨vr, vw, h1, ⟨h2, h2'⟩, h3, h3'⟩ := h
  exact ⟨vr, vw, h1, ⟨h2.mono hl, h2'.mono hl⟩, h3.mono hl, h3'.mono hl⟩
theorem MovG.kept {P : Nat → Prop} {w w' : World} {a : PMove} {c : List Value} {row : Option Nat} (hg : w.grownBy w' row) (hr : ∀ r, row = some r → ∃ o : Obj, w.heap[r]? = some o ∧ o.isCells = false) (h : MovG P w a c) : MovG P w' a c := by
  obtain ⟨vr, vw, h1, ⟨h2, h2'⟩, h3, h3'⟩ := h
  exact ⟨vr, vw, h1, ⟨h2.kept hg hr, h2'.kept hg hr⟩, h3.kept hg hr, h3'.kept hg hr⟩
theorem oneMovG : One MovG 9 := ⟨fun ⟨vr, vw, h, _⟩ => by rw [h]; rfl, fun ⟨vr, vw, h, ⟨h2, _⟩, h3, _⟩ => by
  have q1 := h2.cell1
  have q2 := h3.cell1
  rw [h]
  simp [mvC, q1, q2]
  simp [Value.oneCell'], fun hu ⟨vr, vw, h1, ⟨h2, h2'⟩, h3, h3'⟩ => ⟨vr, vw, h1, ⟨h2.up hu, h2'.up hu⟩, h3.up hu, h3'.up hu⟩⟩
structure AllO (base lo b5 b7 : Nat) (w0 : World) (most : Nat) (l : List PMove) (vo : Value) (W : World) : Prop where
  below : Below base w0 W
  most_ : Holds W b5 3 [.int .i64 (most : Int)]
  box : Holds W b7 28 [vo]
  row : ∃ fo, W.ownsRow lo 75 9 vo l.length fo ∧ LsF MovG (fun q => lo ≤ q ∧ vo.ownBlock ≠ some q) W l fo
  lts : base ≤ b5 ∧ b5 < lo ∧ base ≤ b7 ∧ b7 < lo ∧ lo ≤ W.heap.size ∧ base ≤ w0.heap.size
section
variable {base lo b5 b7 : Nat} {w0 W W' : World} {most : Nat} {l : List PMove} {vo : Value}
theorem AllO.fresh (h : AllO base lo b5 b7 w0 most l vo W) (hb : Below W.heap.size W W') : AllO base lo b5 b7 w0 most l vo W' := by
  obtain ⟨fo, h1, h2⟩ := h.row
  have hl := h.lts
  exact ⟨h.below.trans (hb.mono (by omega)), h.most_.belowAll hb, h.box.belowAll hb, ⟨fo, owns_below h1 hb, LsF.up (fun _ _ => oneMovG.up (Keep.below hb)) _ h2⟩, by have := hb.size; omega⟩
theorem AllO.kept (h : AllO base lo b5 b7 w0 most l vo W) {row : Option Nat} (hg : W.grownBy W' row) (hr : ∀ r, row = some r → lo ≤ r ∧ ∃ o : Obj, W.heap[r]? = some o ∧ o.isCells = false) : AllO base lo b5 b7 w0 most l vo W' := by
  obtain ⟨fo, h1, h2⟩ := h.row
  have hl := h.lts
  have hr2 : ∀ r, row = some r → ∃ o : Obj, W.heap[r]? = some o ∧ o.isCells = false := fun r e => (hr r e).2
  exact ⟨h.below.grown hg (by have := h.below.size; omega) fun k hk => by have := (hr k hk).1; omega, h.most_.kept_row hg hr2, h.box.kept_row hg hr2, ⟨fo, owns_kept h1 hg hr2, LsF.up (fun _ _ => MovG.kept hg hr2) _ h2⟩, by have := hg.size; omega⟩
theorem AllO.app {y : PMove} {vo' : Value} {fo c : List Value} {W4 W5 : World} {o : Obj} (h : AllO base lo b5 b7 w0 most l vo W) (hr : W.ownsRow lo 75 9 vo l.length fo) (hfo : LsF MovG (fun q => lo ≤ q ∧ vo.ownBlock ≠ some q) W l fo) (hy : MovG (fun q => lo ≤ q ∧ vo.ownBlock ≠ some q) W y c)
    (hown : W4.ownsRow lo 75 9 vo' (l.length + 1) (fo ++ c)) (hgr : (W.alloc o).grownBy W4 vo.ownBlock) (hblk : vo'.ownBlock = vo.ownBlock ∨ vo'.ownBlock = some (W.alloc o).heap.size) (hW : W5 = setR W4 b7 0 [vo']) : AllO base lo b5 b7 w0 most (l ++ [y]) vo' W5 ∧ Turns lo W W5 := by
  have hl := h.lts
  have hvl := owns_lt hr
  have hvg := owns_ge hr
  have hs9 : W.heap.size ≤ (W.alloc o).heap.size := by simp
  have hf4 : Fr (fun q => vo.ownBlock = some q) W W4 := ((Fr.refl _ W).alloc o).grown hgr fun q hq _ => hq
  have hf5 : Fr (fun q => q = b7) W4 W5 := by rw [hW]; exact Fr.setRX _ _ 0 _
  have hf : Fr (fun q => q = b7 ∨ vo.ownBlock = some q) W W5 := (hf4.mono fun _ _ h => .inr h).trans hf5 fun q _ hq => .inl hq
  have hb4 : Holds W4 b7 28 [vo] := hf4.holds h.box (owns_ne_holds hr h.box (by decide))
  have hv : ∀ k, k < W.heap.size → vo.ownBlock ≠ some k → vo'.ownBlock ≠ some k := fun k hk hn he => by
    rcases hblk with hb | hb
    · rw [hb] at he; exact hn he
    · rw [hb] at he; injection he with he; omega
  refine ⟨⟨h.below.trans (hf.to_below (by omega) fun k hk hor => ?_), hf.holds h.most_ fun hor => ?_, hb4.stored hW (Nat.le_refl _), ⟨fo ++ c, by rw [List.length_append]; exact hf5.owns hown fun g hgg he => owns_ne_holds hown hb4 (by decide) (by rw [← he]; exact hgg), ?_⟩, by have := hf.size; omega⟩, Turns.of hf fun k hk => ?_⟩
  · rcases hor with rfl | hor
    · omega
    · have := hvg k hor; omega
  · rcases hor with hor | hor
    · exact h.most_.ne_of_type h.box (by decide) hor
    · exact owns_ne_holds hr h.most_ (by decide) hor
  · have a0 := LsF.mono (fun _ _ => MovG.mono (Wide.in_ (w := W))) _ (LsF.append hfo (LsF.sing hy))
    have a2 := LsF.up (w' := W5) (fun _ _ => oneMovG.up fun k hk hs => hf.block k hs fun hor => hor.elim (fun e => by have := hk.1.1; omega) hk.1.2) _ a0
    exact LsF.mono (fun _ _ => MovG.mono fun k hk _ => ⟨hk.1.1, hv k hk.2 hk.1.2⟩) _ a2
  · rcases hk with rfl | hk
    · exact .inl ⟨_, _, h.box, safe_not (by decide) (by decide) (.inl (by decide))⟩
    · obtain ⟨cs, hh⟩ := owns_holds hr hk
      exact .inl ⟨_, _, hh, safe_not (by decide) (by decide) (.inl (by decide))⟩
end
/-- What holds behind the j-th round; what a body begins with. -/
def RngL (base lo b5 b7 : Nat) (w0 : World) (most : Nat) (l : List PMove) (j : Nat) (W : World) : Prop := ∃ vo, AllO base lo b5 b7 w0 most (l.take j) vo W ∧ j ≤ l.length ∧ j ≤ most
def RngB (base lo b5 b7 : Nat) (w0 : World) (most : Nat) (l : List PMove) (j b8 : Nat) (W : World) : Prop := ∃ (hj : j < l.length) (vo vr vw : Value), AllO base lo b5 b7 w0 most (l.take j) vo W ∧ j ≤ most ∧ Holds W b8 75 (mvC l[j] vr vw) ∧ MovG (fun q => lo ≤ q ∧ vo.ownBlock ≠ some q) W l[j] (mvC l[j] vr vw)
theorem RngL.kept {base lo b5 b7 : Nat} {w0 W W' : World} {most j : Nat} {l : List PMove} {row : Option Nat} (h : RngL base lo b5 b7 w0 most l j W) (hg : W.grownBy W' row) (hr : ∀ r, row = some r → lo ≤ r ∧ ∃ o : Obj, W.heap[r]? = some o ∧ o.isCells = false) : RngL base lo b5 b7 w0 most l j W' := by
  obtain ⟨vo, h1, h2⟩ := h
  exact ⟨vo, h1.kept hg hr, h2⟩
theorem RngB.kept {base lo b5 b7 b8 : Nat} {w0 W W' : World} {most j : Nat} {l : List PMove} {row : Option Nat} (h : RngB base lo b5 b7 w0 most l j b8 W) (hg : W.grownBy W' row) (hr : ∀ r, row = some r → lo ≤ r ∧ ∃ o : Obj, W.heap[r]? = some o ∧ o.isCells = false) : RngB base lo b5 b7 w0 most l j b8 W' := by
  obtain ⟨hj, vo, vr, vw, h1, h2, h3, h4⟩ := h
  exact ⟨hj, vo, vr, vw, h1.kept hg hr, h2, h3.kept_row hg fun r e => (hr r e).2, MovG.kept hg (fun r e => (hr r e).2) h4⟩
theorem RngB.start {base lo b5 b7 b8 : Nat} {w0 W0 W W' : World} {most j : Nat} {l : List PMove} {vr vw : Value} (h : RngL base lo b5 b7 w0 most l j W0) (hb : Tol lo W0 W) (hj : j < l.length) (hr : RowX W0.heap.size W vr l[j].reads) (hw : RowX W0.heap.size W vw l[j].writes) (hb2 : Below W.heap.size W W') (h8 : Holds W' b8 75 (mvC l[j] vr vw)) : RngB base lo b5 b7 w0 most l j b8 W' := by
  obtain ⟨vo, h1, h2, h3⟩ := h
  obtain ⟨fo, k1, _⟩ := h1.row
  have hlts := h1.lts
  have hwide : Wide (From W0.heap.size) (fun q => lo ≤ q ∧ vo.ownBlock ≠ some q) W' := fun k hk _ => ⟨by have : W0.heap.size ≤ k := hk; omega, fun e => by have := owns_lt k1 k e; have : W0.heap.size ≤ k := hk; omega⟩
  have hr2 := hr.below hb2
  have hw2 := hw.below hb2
  exact ⟨hj, vo, vr, vw, ((hb (fun W => AllO base lo b5 b7 w0 most (l.take j) vo W) (fun _ A C row hs hg hr => hs.kept hg hr) h1).fresh hb2), h3, h8, ⟨vr, vw, rfl, ⟨hr2.2.mono hwide, hr2.si.mono hwide⟩, hw2.2.mono hwide, hw2.si.mono hwide⟩⟩
def AllPost (l : List PMove) (most : Nat) (w : World) (e : Ending) (w' : World) : Prop := Below w.heap.size w w' ∧ ∃ vo k fo lo, e = .returned vo ∧ (k = l.length ∨ k = most) ∧ k ≤ l.length ∧ k ≤ most ∧ w.heap.size ≤ lo ∧ w'.ownsRow lo 75 9 vo k fo ∧ LsF MovG (fun q => lo ≤ q ∧ vo.ownBlock ≠ some q) w' (l.take k) fo
set_option maxHeartbeats 4000000 in
set_option maxRecDepth 100000 in
theorem allG {I : Ifc} {S : Sys} {w : World} {s : ByteArray} {most : Nat} (hS : SysOk I S w) (hs : s.size ≤ 1048576) (hm : most ≤ 2000001) : Calls Try.prog 27 #[.iface I.tid I.dyn, .string s, .int .i64 (most : Int)] w (AllPost (S.next s) most w) := by
  have m1 := hS.mN
  have m2 := hS.eN
  have HSS := Lib.hid hS
  have hxn := hS.small.len s hs
  obtain ⟨ms, hms⟩ : ∃ l, S.next s = l := ⟨_, rfl⟩
  have HNX := Lib.hid (hS.next)
  rw [hms] at hxn ⊢
  have HMS := Lib.hid hms
  clear hS hms
  refine (callsIn_wide (n := 5)).1 ?_
  refine callsIn_of_wp_marks Try.func27 rfl trivial ?_ rfl
  simp only [Try.ntmps27, List.size_toArray, List.length_cons, List.length_nil, Nat.reduceAdd, Nat.reduceSub, Array.replicate_succ, Array.replicate_zero, List.push_toArray, List.append_toArray, List.nil_append, List.cons_append]
  obtain ⟨w1, hw1⟩ : ∃ W, W = (w.alloc (.cells #[.int .i64 (most : Int)] 3)).alloc (.cells #[.slice none 0 0] 28) := ⟨_, rfl⟩
  have hb1 : Below w.heap.size w w1 := by rw [hw1]; exact ((Below.refl _ _).alloc (Nat.le_refl _) _).alloc (by simp) _
  have h5 : Holds w1 w.heap.size 3 [.int .i64 (most : Int)] := by rw [hw1]; exact (Holds.new w 3 #[.int .i64 (most : Int)]).alloc _
  have h7 : Holds w1 (w.heap.size + 1) 28 [.slice none 0 0] := by
    have h := Holds.new (w.alloc (.cells #[.int .i64 (most : Int)] 3)) 28 #[.slice none 0 0]
    simp only [World.size_alloc] at h
    rw [hw1]; exact h
  have HB1 := Lib.hid hb1
  have H5 := Lib.hid h5
  have H7 := Lib.hid h7
  clear hb1 h5 h7
  gi_wp2_with fail
  rw [← hw1]
  clear hw1
  refine ⟨trivial, ?_⟩
  refine (callsIn_wide.2 (HNX.out w1 s HB1.out hs)).mono ?_
  rintro e w9 ⟨hb9, f, rfl, lb, rfl, hit⟩
  have HB9 : Hid (Below w.heap.size w w9) := HB1.out.trans (hb9.mono HB1.out.size)
  have HA0 : Hid (RngL w.heap.size w9.heap.size w.heap.size (w.heap.size + 1) w most ms 0 w9) := by
    refine ⟨.slice none 0 0, ⟨HB9.out, H5.out.belowAll hb9, H7.out.belowAll hb9, ⟨[], ⟨rfl, .inl ⟨rfl, rfl⟩⟩, rfl⟩, Nat.le_refl _, ?_, by omega, ?_, Nat.le_refl _, Nat.le_refl _⟩, Nat.zero_le _, Nat.zero_le _⟩
    · have := (H5.out.belowAll hb9).lt; exact this
    · have := (H7.out.belowAll hb9).lt; exact this
  have hbl : w.heap.size ≤ w9.heap.size := HB9.out.size
  rw [HMS.out] at hit
  have hseq := hit 4 w.heap.size w9 (Nat.le_refl _) hbl (Below.refl _ _)
  clear hit
  clear hb9 H5 H7
  gi_wp2
  refine wpIn_at fun T hT => ?_
  refine wpIn_rangeFunc_tells (α := Value) (encs := fun y => #[y]) (Kp := KpT w.heap.size w9.heap.size) (S := fun ys => ys.length = ms.length) (Sp := fun _ => True) (N := ms.length) (w0 := w9) (G := Tells ms) rfl (by omega) (gf := I.fG) (lb := lb) (by subst hT; rfl) trivial HSS.out.enter KpT.trans (KpT.put hbl) (Below.refl _ _) (fun _ => rfl)
    (fun pre W => RngL w.heap.size w9.heap.size w.heap.size (w.heap.size + 1) w most ms pre.length W) hseq (fun c pre W => c = .exit 0 ∧ RngL w.heap.size w9.heap.size w.heap.size (w.heap.size + 1) w most ms most W) ?hI ?hIx HA0.out
    (fun pre y a' W => ∃ b8, a' = { tmps := (T.setIfInBounds 12 y).setIfInBounds 8 (.pointer (some ⟨b8, 0, none⟩)), defers := [] } ∧ RngB w.heap.size w9.heap.size w.heap.size (w.heap.size + 1) w most ms pre.length b8 W) ?hAx ?assign ?body ?done ?stop
  case hI => exact fun pre V V' row hs hg hr => hs.kept hg hr
  case hIx => exact fun c pre V V' row hs hg hr => ⟨hs.1, hs.2.kept hg hr⟩
  case hAx => exact fun pre y a' s V V' row hs hg hr => by obtain ⟨b8, h1, h2⟩ := hs; exact ⟨b8, h1, h2.kept hg hr⟩
  case assign =>
    intro l pre y W0 W K hi0 hb01 hi hG hK
    obtain ⟨hj, vr, vw, rfl, hr, hw⟩ := hG
    subst hT
    have HZ14 := Lib.hid (Holds.new W 75 #[.int .i64 0, .int .i64 0, .int .i64 0, .int .i64 0, .string ⟨#[]⟩, .int .i64 0, .slice none 0 0, .slice none 0 0, .int .u64 0])
    have hone : (mvC ms[pre.length] vr vw).all (·.oneCell') = true := by
      have q1 := hr.2.cell1
      have q2 := hw.2.cell1
      simp [mvC, q1, q2]
      simp [Value.oneCell']
    gi_wp2_with (refine wpListIn_storeB rfl 75 _ _ rfl W.heap.size 0 (mvC ms[pre.length] vr vw) rfl rfl HZ14.out (Nat.le_of_ble_eq_true rfl) sz_Move hone ?_)
    refine Named.mk (fun W' hW' => ?_)
    have hb' : Below W.heap.size W W' := by rw [hW']; exact Below.far (Below.refl _ _) (Nat.le_refl _) _ _ _
    have h14 : Holds W' W.heap.size 75 (mvC ms[pre.length] vr vw) := HZ14.out.stored hW' (Nat.le_of_ble_eq_true rfl)
    have hA := RngB.start hi0 hb01 hj hr hw hb' h14
    have hi2 : RngL w.heap.size w9.heap.size w.heap.size (w.heap.size + 1) w most ms pre.length W' := by
      obtain ⟨vo, q1, q2⟩ := hi
      exact ⟨vo, q1.fresh hb', q2⟩
    have hbb : Below w.heap.size W W' := hb'.mono (by obtain ⟨_, q1, _⟩ := hi; have := q1.below.size; exact this)
    have hkk := (Turns.below (lo := w9.heap.size) hb').keeps
    have hbk : KpT w.heap.size w9.heap.size W W' := ⟨hbb, (Turns.below hb').safe⟩
    clear hW' h14 HZ14
    gi_wp2
    exact hK _ _ hkk hbk hi2 ⟨W.heap.size, rfl, hA⟩
  case body =>
    rintro l pre y a' W hl2 hrec hi ⟨b8, rfl, hj, vo, vr, vw, hA, hjm, h8, hG⟩ hlen
    subst hT
    obtain ⟨k, hk⟩ : ∃ k, pre.length = k := ⟨_, rfl⟩
    have HKK := Lib.hid hk
    have hkz : k < ms.length := by rw [← hk]; exact hj
    obtain ⟨a, haa⟩ : ∃ a, ms[pre.length] = a := ⟨_, rfl⟩
    have hza : ms[k]? = some a := by
      rw [List.getElem?_eq_getElem hkz]
      subst hk
      rw [haa]
    have HZA := Lib.hid hza
    rw [haa] at h8 hG
    rw [hk] at hA hjm hj
    obtain ⟨p1, p2, p3, p4, p5, p6, rfl, rfl⟩ : ∃ p1 p2 p3 p4 p5 p6, vr = .slice p1 p2 p3 ∧ vw = .slice p4 p5 p6 := by
      obtain ⟨r2, s2, q1, ⟨q2, _⟩, q3, _⟩ := hG
      simp only [mvC, List.cons.injEq, true_and, and_true] at q1
      obtain ⟨rfl, rfl⟩ := q1
      obtain ⟨b1, d1, e1, _⟩ := q2.form
      obtain ⟨b2, d2, e2, _⟩ := q3.form
      exact ⟨_, _, _, _, _, _, e1, e2⟩
    obtain ⟨fo, hro, hfo⟩ := hA.row
    have hlo : (ms.take k).length = k := by rw [List.length_take]; omega
    obtain ⟨ao, co, hvo, hco, _⟩ := owns_form hro
    rw [hlo] at hvo hro
    subst hvo
    have g5 := hA.most_.cell 0
    have g7 := hA.box.cell 0
    simp only [List.getElem?_cons_zero] at g5 g7
    have HA := Lib.hid hA
    have HG := Lib.hid hG
    have H8 := Lib.hid h8
    have HRO := Lib.hid hro
    have HFO := Lib.hid hfo
    have HLO := Lib.hid hlo
    have HRG := Lib.hid (h8.range (i := 0) (n := 9) (xs := [.int .i64 a.proc, .int .i64 a.edge, .int .i64 a.wth, .int .i64 a.wthE, .string a.dst, .int .i64 a.bad, .slice p1 p2 p3, .slice p4 p5 p6, .int .u64 (a.turns : Int)]) rfl)
    obtain ⟨i0, z0, hi0, hz0, hz1, hz2, hz3⟩ := info_of info_move
    have HLE : Hid ((pre ++ [y]).length = k + 1) := by show _ = _; rw [List.length_append, hk]; rfl
    clear hA hG h8 hro hfo hlo hza haa hk hkz
    by_cases hkm : k = most
    · have d0 : ((k : Int) == (most : Int)) = true := by rw [hkm]; exact beq_self_eq_true _
      have HKM := Lib.hid hkm
      clear hkm
      gi_wp2
      refine ⟨KeepsFrom.refl _ _, rfl, ?_⟩
      have h3 : RngL w.heap.size w9.heap.size w.heap.size (w.heap.size + 1) w most ms k W := ⟨_, HA.out, by omega, by rw [HKM.out]; exact Nat.le_refl _⟩
      exact (congrArg (fun j => RngL w.heap.size w9.heap.size w.heap.size (w.heap.size + 1) w most ms j W) HKM.out).mp h3
    · have d0 : ((k : Int) == (most : Int)) = false := by rw [Bool.eq_false_iff]; intro h3; have h4 := eq_of_beq h3; exact hkm (by omega)
      gi_wp2_with (first | (refine wpListIn_load_mid rfl 75 _ rfl b8 0 rfl ([.int .i64 a.proc, .int .i64 a.edge, .int .i64 a.wth, .int .i64 a.wthE, .string a.dst, .int .i64 a.bad, .slice p1 p2 p3, .slice p4 p5 p6, .int .u64 (a.turns : Int)]) _ HRG.out Try.underlying75 rfl sz_Move ?_) | (refine stop_call { callee := .builtin .append, args := #[.tmp 17, .tmp 19], argTypes := #[28, 28] } rfl ?_))
      refine Stop.mk ?_
      refine wpListIn_append_own_at _ rfl (.tmp 17) (.tmp 19) _ rfl w9.heap.size 75 i0 z0 9 112 Try.underlying28 hi0 hz0 hz1 hz2 hz3 (by omega) (.slice ao k co) k fo rfl (owns_below HRO.out ((Below.refl _ _).alloc (Nat.le_refl _) _)) ⟨W.heap.size, 0, none⟩ 1 1 ([.int .i64 a.proc, .int .i64 a.edge, .int .i64 a.wth, .int .i64 a.wthE, .string a.dst, .int .i64 a.bad, .slice p1 p2 p3, .slice p4 p5 p6, .int .u64 (a.turns : Int)]) rfl rfl ?c1 ?c2 ?c3 ?c4 ?c5 ?_
      case c1 => exact fun jj u hu => by rw [Addr.add_lit, Nat.zero_add]; exact ((Holds.new W 75 ([.int .i64 a.proc, .int .i64 a.edge, .int .i64 a.wth, .int .i64 a.wthE, .string a.dst, .int .i64 a.bad, .slice p1 p2 p3, .slice p4 p5 p6, .int .u64 (a.turns : Int)] : List Value).toArray).cell jj).trans hu
      case c2 => exact List.all_eq_true.1 (oneMovG.one HG.out)
      case c3 => unfold maxLen; omega
      case c4 => omega
      case c5 => have := HA.out.lts; simp; omega
      intro v' W4 hown hgrow _ hblk
      obtain ⟨av4, cv4, rfl, _, _⟩ := owns_form hown
      have h74 : Holds W4 (w.heap.size + 1) 28 [.slice ao k co] := (HA.out.box.alloc _).of_eq (hgrow.block _ (HA.out.box.alloc (.cells ([.int .i64 a.proc, .int .i64 a.edge, .int .i64 a.wth, .int .i64 a.wthE, .string a.dst, .int .i64 a.bad, .slice p1 p2 p3, .slice p4 p5 p6, .int .u64 (a.turns : Int)] : List Value).toArray 75)).lt fun he => owns_ne_holds HRO.out HA.out.box (by decide) he.symm)
      have H74 := Lib.hid h74
      have HOX := Lib.hid hown
      have HGW := Lib.hid hgrow
      have HBK := Lib.hid hblk
      clear hown hgrow hblk h74 g5 g7 HRG
      gi_wp2_with (refine wpListIn_store1 rfl 28 _ _ rfl (w.heap.size + 1) 0 (.slice av4 (k + 1) cv4) rfl rfl H74.out (Nat.le_of_ble_eq_true rfl) sz_Moves rfl rfl ?_)
      refine Named.mk (fun WZ hWZ => ?_)
      obtain ⟨r1, r2⟩ := HA.out.app (by rw [HLO.out]; exact HRO.out) HFO.out HG.out (by rw [HLO.out]; exact HOX.out) HGW.out HBK.out hWZ
      have HTZ := Lib.hid r2
      have HBZ : Hid (Below w.heap.size W WZ) := below_two HA.out.below r1.below r2.keeps.size
      have HRZ : Hid (RngL w.heap.size w9.heap.size w.heap.size (w.heap.size + 1) w most ms (k + 1) WZ) := by
        refine ⟨.slice av4 (k + 1) cv4, ?_, hj, by omega⟩
        rw [List.take_add_one, HZA.out]
        exact r1
      clear hWZ r1 r2 HOX HGW HBK H74
      gi_wp2
      refine ⟨HTZ.out.keeps, ⟨HBZ.out, HTZ.out.safe⟩, ?_⟩
      have h3 := HRZ.out
      rw [← HLE.out] at h3
      exact h3
  case done =>
    rintro D xs W hD hlen hi hK
    subst hT
    obtain ⟨vo, hA, hjl, hjm⟩ := hi
    obtain ⟨fo, hro, hfo⟩ := hA.row
    have hlo : (ms.take xs.length).length = xs.length := by rw [List.length_take]; omega
    rw [hlo] at hro
    have g7 := hA.box.cell 0
    simp only [List.getElem?_cons_zero] at g7
    have HP : Hid (∀ w', Fr (fun q => q = D) W w' → AllPost ms most w (.returned vo) w') := fun w' hf => by
      have hFD : ∀ q, q = D → ∃ o : Obj, W.heap[q]? = some o ∧ o.isCells = false := fun q hq => by rw [hq]; exact ⟨_, hK, rfl⟩
      refine ⟨hA.below.trans (hf.to_below hA.below.size fun q hq e => by omega), vo, xs.length, fo, w9.heap.size, rfl, .inl hlen, hjl, hjm, hbl, ?_, LsF.up (fun _ _ ⟨vr, vw, q1, ⟨q2, q2'⟩, q3, q3'⟩ => ⟨vr, vw, q1, ⟨q2.keptF hf hFD, q2'.keptF hf hFD⟩, q3.keptF hf hFD, q3'.keptF hf hFD⟩) _ hfo⟩
      exact hf.owns hro fun g hg e => by
        obtain ⟨cs, hh⟩ := owns_holds hro hg
        rw [e] at hh
        unfold Holds at hh
        rw [hK] at hh
        cases hh
    have HKD := Lib.hid hK
    clear hA hro hfo hK hlo
    gi_wp2
    exact leaves_marks (by simp) [D] W (by simp) (fun E hE => by rw [List.mem_singleton] at hE; rw [hE]; exact HKD.out) fun w' hf => ⟨vo, results_tmp6 _ _, HP.out w' (hf.mono fun q _ hq => by simpa using hq)⟩
  case stop =>
    rintro D c pre W hD - ⟨rfl, hi⟩ hK
    subst hT
    obtain ⟨vo, hA, hjl, hjm⟩ := hi
    obtain ⟨fo, hro, hfo⟩ := hA.row
    have hlo : (ms.take most).length = most := by rw [List.length_take]; omega
    rw [hlo] at hro
    have g7 := hA.box.cell 0
    simp only [List.getElem?_cons_zero] at g7
    have HP : Hid (∀ w', Fr (fun q => q = D) W w' → AllPost ms most w (.returned vo) w') := fun w' hf => by
      have hFD : ∀ q, q = D → ∃ o : Obj, W.heap[q]? = some o ∧ o.isCells = false := fun q hq => by rw [hq]; exact ⟨_, hK, rfl⟩
      refine ⟨hA.below.trans (hf.to_below hA.below.size fun q hq e => by omega), vo, most, fo, w9.heap.size, rfl, .inr rfl, hjl, hjm, hbl, ?_, LsF.up (fun _ _ ⟨vr, vw, q1, ⟨q2, q2'⟩, q3, q3'⟩ => ⟨vr, vw, q1, ⟨q2.keptF hf hFD, q2'.keptF hf hFD⟩, q3.keptF hf hFD, q3'.keptF hf hFD⟩) _ hfo⟩
      exact hf.owns hro fun g hg e => by
        obtain ⟨cs, hh⟩ := owns_holds hro hg
        rw [e] at hh
        unfold Holds at hh
        rw [hK] at hh
        cases hh
    have HKD := Lib.hid hK
    clear hA hro hfo hK hlo
    gi_wp2
    exact leaves_marks (by simp) [D] W (by simp) (fun E hE => by rw [List.mem_singleton] at hE; rw [hE]; exact HKD.out) fun w' hf => ⟨vo, results_tmp6 _ _, HP.out w' (hf.mono fun q _ hq => by simpa using hq)⟩
end Go.Proofs.Ytpednhcfkjjcpaa.G
