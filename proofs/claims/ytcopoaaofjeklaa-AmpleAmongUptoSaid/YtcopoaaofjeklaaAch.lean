/- The walk of ample.Choose, of a system that tells what its processes may do; nothing closes a round. -/
import Derived.Test.YtcopoaaofjeklaaAcs
namespace Go.Proofs.Ytcopoaaofjeklaa.G
open Go.RowKit Go.Maps
set_option linter.unusedVariables false
set_option linter.unusedSimpArgs false
attribute [local go_sem] Oper.semAt_some run_makeMap

structure ChO (base lo b7 : Nat) (w0 : World) (l : List PMove) (vo : Value) (W : World) : Prop where
  below : Below base w0 W
  box : Holds W b7 38 [vo]
  row : ∃ fo, W.ownsRow lo 44 9 vo l.length fo ∧ LsF MovG (fun q => lo ≤ q ∧ vo.ownBlock ≠ some q) W l fo
  lts : base ≤ b7 ∧ b7 < lo ∧ lo ≤ W.heap.size ∧ base ≤ w0.heap.size
section
variable {base lo b7 : Nat} {w0 W W' : World} {l : List PMove} {vo : Value}
theorem ChO.fresh (h : ChO base lo b7 w0 l vo W) (hb : Below W.heap.size W W') : ChO base lo b7 w0 l vo W' := by
  obtain ⟨fo, h1, h2⟩ := h.row
  have hl := h.lts
  exact ⟨h.below.trans (hb.mono (by omega)), h.box.belowAll hb, ⟨fo, owns_below h1 hb, LsF.up (fun _ _ => oneMovG.up (Keep.below hb)) _ h2⟩, by have := hb.size; omega⟩
theorem ChO.kept (h : ChO base lo b7 w0 l vo W) {row : Option Nat} (hg : W.grownBy W' row) (hr : ∀ r, row = some r → lo ≤ r ∧ ∃ o : Obj, W.heap[r]? = some o ∧ o.isCells = false) : ChO base lo b7 w0 l vo W' := by
  obtain ⟨fo, h1, h2⟩ := h.row
  have hl := h.lts
  have hr2 : ∀ r, row = some r → ∃ o : Obj, W.heap[r]? = some o ∧ o.isCells = false := fun r e => (hr r e).2
  exact ⟨h.below.grown hg (by have := h.below.size; omega) fun k hk => by have := (hr k hk).1; omega, h.box.kept_row hg hr2, ⟨fo, owns_kept h1 hg hr2, LsF.up (fun _ _ => MovG.kept hg hr2) _ h2⟩, by have := hg.size; omega⟩
theorem ChO.app {y : PMove} {vo' : Value} {fo c : List Value} {W4 W5 : World} {o : Obj} (h : ChO base lo b7 w0 l vo W) (hr : W.ownsRow lo 44 9 vo l.length fo) (hfo : LsF MovG (fun q => lo ≤ q ∧ vo.ownBlock ≠ some q) W l fo) (hy : MovG (fun q => lo ≤ q ∧ vo.ownBlock ≠ some q) W y c)
    (hown : W4.ownsRow lo 44 9 vo' (l.length + 1) (fo ++ c)) (hgr : (W.alloc o).grownBy W4 vo.ownBlock) (hblk : vo'.ownBlock = vo.ownBlock ∨ vo'.ownBlock = some (W.alloc o).heap.size) (hW : W5 = setR W4 b7 0 [vo']) : ChO base lo b7 w0 (l ++ [y]) vo' W5 ∧ Turns lo W W5 := by
  have hl := h.lts
  have hvl := owns_lt hr
  have hvg := owns_ge hr
  have hs9 : W.heap.size ≤ (W.alloc o).heap.size := by simp
  have hf4 : Fr (fun q => vo.ownBlock = some q) W W4 := ((Fr.refl _ W).alloc o).grown hgr fun q hq _ => hq
  have hf5 : Fr (fun q => q = b7) W4 W5 := by rw [hW]; exact Fr.setRX _ _ 0 _
  have hf : Fr (fun q => q = b7 ∨ vo.ownBlock = some q) W W5 := (hf4.mono fun _ _ h => .inr h).trans hf5 fun q _ hq => .inl hq
  have hb4 : Holds W4 b7 38 [vo] := hf4.holds h.box (owns_ne_holds hr h.box (by decide))
  have hv : ∀ k, k < W.heap.size → vo.ownBlock ≠ some k → vo'.ownBlock ≠ some k := fun k hk hn he => by
    rcases hblk with hb | hb
    · rw [hb] at he; exact hn he
    · rw [hb] at he; injection he with he; omega
  refine ⟨⟨h.below.trans (hf.to_below (by omega) fun k hk hor => ?_), hb4.stored hW (Nat.le_refl _), ⟨fo ++ c, by rw [List.length_append]; exact hf5.owns hown fun g hgg he => owns_ne_holds hown hb4 (by decide) (by rw [← he]; exact hgg), ?_⟩, by have := hf.size; omega⟩, Turns.of hf fun k hk => ?_⟩
  · rcases hor with rfl | hor
    · omega
    · have := hvg k hor; omega
  · have a0 := LsF.mono (fun _ _ => MovG.mono (Wide.in_ (w := W))) _ (LsF.append hfo (LsF.sing hy))
    have a2 := LsF.up (w' := W5) (fun _ _ => oneMovG.up fun k hk hs => hf.block k hs fun hor => hor.elim (fun e => by have := hk.1.1; omega) hk.1.2) _ a0
    exact LsF.mono (fun _ _ => MovG.mono fun k hk _ => ⟨hk.1.1, hv k hk.2 hk.1.2⟩) _ a2
  · rcases hk with rfl | hk
    · exact .inl ⟨_, _, h.box, safe_not (by decide) (by decide) (.inl (by decide))⟩
    · obtain ⟨cs, hh⟩ := owns_holds hr hk
      exact .inl ⟨_, _, hh, safe_not (by decide) (by decide) (.inl (by decide))⟩
theorem ChO.moves (h : ChO base lo b7 w0 l vo W) : MvsV (fun _ => True) W vo l := by
  obtain ⟨fo, h1, h2⟩ := h.row
  exact ⟨fo, RowL.of_owns h1 fun _ _ => trivial, LsF.mono (fun _ _ => MvF.mono fun _ _ _ => trivial) _ (LsF.imp (Q := fun q => lo ≤ q ∧ vo.ownBlock ≠ some q) (fun _ _ => MvF.of) _ h2)⟩
end
theorem MvsV.keptF {F P : Nat → Prop} {w w' : World} {v : Value} {l : List PMove} (h : MvsV P w v l) (hf : Fr F w w') (hF : ∀ k, F k → ∃ o : Obj, w.heap[k]? = some o ∧ o.isCells = false) : MvsV P w' v l := by
  obtain ⟨f, h1, h2⟩ := h
  exact ⟨f, h1.keptF hf hF, LsF.up (fun _ _ ⟨vr, vw, q1, q2, q3⟩ => ⟨vr, vw, q1, q2.keptF hf hF, q3.keptF hf hF⟩) _ h2⟩
/-- What holds behind the j-th round; what a body begins with. -/
def ChL (base lo b7 : Nat) (w0 : World) (l : List PMove) (j : Nat) (W : World) : Prop := ∃ vo, ChO base lo b7 w0 (l.take j) vo W ∧ j ≤ l.length
def ChB (base lo b7 : Nat) (w0 : World) (l : List PMove) (j b8 : Nat) (W : World) : Prop := ∃ (hj : j < l.length) (vo vr vw : Value), ChO base lo b7 w0 (l.take j) vo W ∧ Holds W b8 44 (mvC l[j] vr vw) ∧ MovG (fun q => lo ≤ q ∧ vo.ownBlock ≠ some q) W l[j] (mvC l[j] vr vw)
theorem ChL.kept {base lo b7 : Nat} {w0 W W' : World} {j : Nat} {l : List PMove} {row : Option Nat} (h : ChL base lo b7 w0 l j W) (hg : W.grownBy W' row) (hr : ∀ r, row = some r → lo ≤ r ∧ ∃ o : Obj, W.heap[r]? = some o ∧ o.isCells = false) : ChL base lo b7 w0 l j W' := by
  obtain ⟨vo, h1, h2⟩ := h
  exact ⟨vo, h1.kept hg hr, h2⟩
theorem ChB.kept {base lo b7 b8 : Nat} {w0 W W' : World} {j : Nat} {l : List PMove} {row : Option Nat} (h : ChB base lo b7 w0 l j b8 W) (hg : W.grownBy W' row) (hr : ∀ r, row = some r → lo ≤ r ∧ ∃ o : Obj, W.heap[r]? = some o ∧ o.isCells = false) : ChB base lo b7 w0 l j b8 W' := by
  obtain ⟨hj, vo, vr, vw, h1, h3, h4⟩ := h
  exact ⟨hj, vo, vr, vw, h1.kept hg hr, h3.kept_row hg fun r e => (hr r e).2, MovG.kept hg (fun r e => (hr r e).2) h4⟩
theorem ChB.start {base lo b7 b8 : Nat} {w0 W0 W W' : World} {j : Nat} {l : List PMove} {vr vw : Value} (h : ChL base lo b7 w0 l j W0) (hb : Below W0.heap.size W0 W) (hj : j < l.length) (hr : RowX W0.heap.size W vr l[j].reads) (hw : RowX W0.heap.size W vw l[j].writes) (hb2 : Below W.heap.size W W') (h8 : Holds W' b8 44 (mvC l[j] vr vw)) : ChB base lo b7 w0 l j b8 W' := by
  obtain ⟨vo, h1, h3⟩ := h
  obtain ⟨fo, k1, _⟩ := h1.row
  have hlts := h1.lts
  have hwide : Wide (From W0.heap.size) (fun q => lo ≤ q ∧ vo.ownBlock ≠ some q) W' := fun k hk _ => ⟨by have : W0.heap.size ≤ k := hk; omega, fun e => by have := owns_lt k1 k e; have : W0.heap.size ≤ k := hk; omega⟩
  have hr2 := hr.below hb2
  have hw2 := hw.below hb2
  exact ⟨hj, vo, vr, vw, h1.fresh (hb.trans (hb2.mono hb.size)), h8, ⟨vr, vw, rfl, ⟨hr2.2.mono hwide, hr2.si.mono hwide⟩, hw2.2.mono hwide, hw2.si.mono hwide⟩⟩
theorem results_tmp89 (tmps : Array Value) (w : World) : (results Try.f10 tmps).run Try.prog w = .ok (.tuple #[tmps.getD 8 undef, tmps.getD 9 undef]) w := by
  simp [results, Try.f10]
theorem choose_at {S : Stat} {s : ByteArray} {vis : Nat} {l : List Nat} {i : Nat} (h : i < l.length) : chooseGo S s vis (l.drop i) = if fineP S s vis l[i] then ((aloneP l[i] (S.sys.next s)).1, true) else chooseGo S s vis (l.drop (i + 1)) := by
  rw [List.drop_eq_getElem_cons h, chooseGo]
theorem fine_no1 {S : Stat} {s : ByteArray} {vis p : Nat} (h : (aloneP p (S.sys.next s)).2 = false) : fineP S s vis p = false := by
  unfold fineP; rw [h]; rfl
theorem fine_no2 {S : Stat} {s : ByteArray} {vis p : Nat} (h : ¬ (S.here s p).turns &&& vis = 0) : fineP S s vis p = false := by
  unfold fineP; rw [decide_eq_false h]; simp
theorem fine_no3 {S : Stat} {s : ByteArray} {vis p q : Nat} (hq : q ∈ S.live s) (h1 : q ≠ p) (h : apartP (S.here s p) (S.ever s q) = false) : fineP S s vis p = false := by
  unfold fineP
  have h2 : ((S.live s).all fun q => decide (q = p) || apartP (S.here s p) (S.ever s q)) = false := by
    rw [Bool.eq_false_iff]
    intro h3
    rw [List.all_eq_true] at h3
    have := h3 q hq
    simp [h1, h] at this
  rw [h2]; simp
theorem fine_yes {S : Stat} {s : ByteArray} {vis p : Nat} (h1 : (aloneP p (S.sys.next s)).2 = true) (h2 : (S.here s p).turns &&& vis = 0) (h3 : ∀ q ∈ S.live s, q = p ∨ apartP (S.here s p) (S.ever s q) = true) : fineP S s vis p = true := by
  unfold fineP
  rw [h1, decide_eq_true h2]
  simp only [Bool.true_and, List.all_eq_true]
  intro q hq
  rcases h3 q hq with h | h
  · simp [h]
  · simp [h]
theorem neq_nilFunc (w : World) : (binOp .neq 72 .nilFunc .nilFunc).run Try.prog w = .ok (.bool false) w := by kernel_rfl
def ChPost (r : List PMove × Bool) (w : World) (e : Ending) (w' : World) : Prop := Below w.heap.size w w' ∧ ∃ vl, e = .returned (.tuple #[vl, .bool r.2]) ∧ MvsV (fun _ => True) w' vl r.1
set_option maxHeartbeats 4000000 in
set_option maxRecDepth 100000 in
theorem chooseFn {I : Ifc} {J : Ifs} {T : Stat} {w : World} {s : ByteArray} {vis : Nat} (hS : StatOk I J T w) (hs : s.size ≤ 1048576) (hv : vis < 18446744073709551616) : Calls Try.prog 10 #[.iface I.tid I.dyn, .string s, .int .u64 (vis : Int), .nilFunc] w (ChPost (chooseP T s vis) w) := by
  have m1 := hS.sys.mN
  have m2 := hS.sys.eN
  have m3 := hS.mV
  have m4 := hS.eV
  have m5 := hS.mH
  have m6 := hS.eH
  have hnf := neq_nilFunc
  have HSS := Lib.hid hS
  have HV := Lib.hid hv
  have hxn := hS.sys.small.len s hs
  obtain ⟨ms, hms⟩ : ∃ l, T.sys.next s = l := ⟨_, rfl⟩
  have HNX := Lib.hid (hS.sys.next)
  have HEN := Lib.hid hS.sys.enter
  rw [hms] at hxn
  have HMS := Lib.hid hms
  obtain ⟨r0, hr0⟩ : ∃ r, chooseP T s vis = r := ⟨_, rfl⟩
  have H0 := Lib.hid hr0
  rw [hr0]
  clear hS hms hv hr0
  refine (callsIn_wide (n := 5)).1 ?_
  refine callsIn_of_wp_marks Try.func10 rfl trivial ?_ rfl
  simp only [Try.ntmps10, List.size_toArray, List.length_cons, List.length_nil, Nat.reduceAdd, Nat.reduceSub, Array.replicate_succ, Array.replicate_zero, List.push_toArray, List.append_toArray, List.nil_append, List.cons_append]
  obtain ⟨w1, hw1⟩ : ∃ W, W = w.alloc (.cells #[.slice none 0 0] 38) := ⟨_, rfl⟩
  have hb1 : Below w.heap.size w w1 := by rw [hw1]; exact (Below.refl _ _).alloc (Nat.le_refl _) _
  have h7 : Holds w1 w.heap.size 38 [.slice none 0 0] := by rw [hw1]; exact Holds.new w 38 #[.slice none 0 0]
  have HB1 := Lib.hid hb1
  have H7 := Lib.hid h7
  clear hb1 h7
  gi_wp2_with fail
  refine wpIn_wide.2 (wp_scope_straight ((wpIn_wide (n := 5)).1 ?_))
  gi_wp2_with fail
  rw [← hw1]
  clear hw1
  refine ⟨trivial, ?_⟩
  refine (callsIn_wide.2 (HNX.out w1 s HB1.out hs)).mono ?_
  rintro e w9 ⟨hb9, f, rfl, lb, rfl, hit⟩
  have HB9 : Hid (Below w.heap.size w w9) := HB1.out.trans (hb9.mono HB1.out.size)
  have HA0 : Hid (ChL w.heap.size w9.heap.size w.heap.size w ms 0 w9) := by
    refine ⟨.slice none 0 0, ⟨HB9.out, H7.out.belowAll hb9, ⟨[], ⟨rfl, .inl ⟨rfl, rfl⟩⟩, rfl⟩, Nat.le_refl _, ?_, Nat.le_refl _, Nat.le_refl _⟩, Nat.zero_le _⟩
    have := (H7.out.belowAll hb9).lt; exact this
  have hbl : w.heap.size ≤ w9.heap.size := HB9.out.size
  rw [HMS.out] at hit
  have hseq := hit 4 w.heap.size w9 (Nat.le_refl _) hbl (Below.refl _ _)
  clear hit
  clear hb9 H7
  gi_wp2
  refine wpIn_at fun T0 hT => ?_
  refine wpIn_rangeFunc_tells (α := Value) (encs := fun y => #[y]) (Kp := KpT w.heap.size w9.heap.size) (S := fun ys => ys.length = ms.length) (Sp := fun _ => True) (N := ms.length) (w0 := w9) (G := Tells ms) rfl (by omega) (gf := I.fG) (lb := lb) (by subst hT; rfl) trivial HEN.out KpT.trans (KpT.put hbl) (Below.refl _ _) (fun _ => rfl)
    (fun pre W => ChL w.heap.size w9.heap.size w.heap.size w ms pre.length W) hseq (fun c pre W => False) ?hI ?hIx HA0.out
    (fun pre y a' W => ∃ b8, a' = { tmps := (T0.setIfInBounds 27 y).setIfInBounds 11 (.pointer (some ⟨b8, 0, none⟩)), defers := [] } ∧ ChB w.heap.size w9.heap.size w.heap.size w ms pre.length b8 W) ?hAx ?assign ?body ?done ?stop
  case hI => exact fun pre V V' row hs hg hr => hs.kept hg hr
  case hIx => exact fun c pre V V' row hs hg hr => hs
  case hAx => exact fun pre y a' s V V' row hs hg hr => by obtain ⟨b8, h1, h2⟩ := hs; exact ⟨b8, h1, h2.kept hg hr⟩
  case assign =>
    intro l pre y W0 W K hi0 hb01 hi hG hK
    obtain ⟨hj, vr, vw, rfl, hr, hw⟩ := hG
    subst hT
    have HZ14 := Lib.hid (Holds.new W 44 #[.int .i64 0, .int .i64 0, .int .i64 0, .int .i64 0, .string ⟨#[]⟩, .int .i64 0, .slice none 0 0, .slice none 0 0, .int .u64 0])
    have hone : (mvC ms[pre.length] vr vw).all (·.oneCell') = true := by
      have q1 := hr.2.cell1
      have q2 := hw.2.cell1
      simp [mvC, q1, q2]
      simp [Value.oneCell']
    gi_wp2_with (refine wpListIn_storeB rfl 44 _ _ rfl W.heap.size 0 (mvC ms[pre.length] vr vw) rfl rfl HZ14.out (Nat.le_of_ble_eq_true rfl) sz_Move hone ?_)
    refine Named.mk (fun W' hW' => ?_)
    have hb' : Below W.heap.size W W' := by rw [hW']; exact Below.far (Below.refl _ _) (Nat.le_refl _) _ _ _
    have h14 : Holds W' W.heap.size 44 (mvC ms[pre.length] vr vw) := HZ14.out.stored hW' (Nat.le_of_ble_eq_true rfl)
    have hA := ChB.start hi0 hb01 hj hr hw hb' h14
    have hi2 : ChL w.heap.size w9.heap.size w.heap.size w ms pre.length W' := by
      obtain ⟨vo, q1, q2⟩ := hi
      exact ⟨vo, q1.fresh hb', q2⟩
    have hbb : Below w.heap.size W W' := hb'.mono (by obtain ⟨_, q1, _⟩ := hi; have := q1.below.size; exact this)
    have hkk := (Turns.below (lo := w9.heap.size) hb').keeps
    have hbk : KpT w.heap.size w9.heap.size W W' := ⟨hbb, (Turns.below hb').safe⟩
    clear hW' h14 HZ14
    gi_wp2
    exact hK _ _ hkk hbk hi2 ⟨W.heap.size, rfl, hA⟩
  case body =>
    rintro l pre y a' W hl2 hrec hi ⟨b8, rfl, hj, vo, vr, vw, hA, h8, hG⟩ hlen
    subst hT
    obtain ⟨k, hk⟩ : ∃ k, pre.length = k := ⟨_, rfl⟩
    have HKK := Lib.hid hk
    have hkz : k < ms.length := by rw [← hk]; exact hj
    obtain ⟨a, haa⟩ : ∃ a, ms[pre.length] = a := ⟨_, rfl⟩
    have hza : ms[k]? = some a := by
      rw [List.getElem?_eq_getElem hkz]
      subst hk
      rw [haa]
    have HZA := Lib.hid hza
    rw [haa] at h8 hG
    rw [hk] at hA hj
    obtain ⟨p1, p2, p3, p4, p5, p6, rfl, rfl⟩ : ∃ p1 p2 p3 p4 p5 p6, vr = .slice p1 p2 p3 ∧ vw = .slice p4 p5 p6 := by
      obtain ⟨r2, s2, q1, ⟨q2, _⟩, q3, _⟩ := hG
      simp only [mvC, List.cons.injEq, true_and, and_true] at q1
      obtain ⟨rfl, rfl⟩ := q1
      obtain ⟨b1, d1, e1, _⟩ := q2.form
      obtain ⟨b2, d2, e2, _⟩ := q3.form
      exact ⟨_, _, _, _, _, _, e1, e2⟩
    obtain ⟨fo, hro, hfo⟩ := hA.row
    have hlo : (ms.take k).length = k := by rw [List.length_take]; omega
    obtain ⟨ao, co, hvo, hco, _⟩ := owns_form hro
    rw [hlo] at hvo hro
    subst hvo
    have g7 := hA.box.cell 0
    simp only [List.getElem?_cons_zero] at g7
    have HA := Lib.hid hA
    have HG := Lib.hid hG
    have H8 := Lib.hid h8
    have HRO := Lib.hid hro
    have HFO := Lib.hid hfo
    have HLO := Lib.hid hlo
    have HRG := Lib.hid (h8.range (i := 0) (n := 9) (xs := [.int .i64 a.proc, .int .i64 a.edge, .int .i64 a.wth, .int .i64 a.wthE, .string a.dst, .int .i64 a.bad, .slice p1 p2 p3, .slice p4 p5 p6, .int .u64 (a.turns : Int)]) rfl)
    obtain ⟨i0, z0, hi0, hz0, hz1, hz2, hz3⟩ := info_of info_move
    have HLE : Hid ((pre ++ [y]).length = k + 1) := by show _ = _; rw [List.length_append, hk]; rfl
    clear hA hG h8 hro hfo hlo hza haa hk hkz
    gi_wp2_with (first | (refine wpListIn_load_mid rfl 44 _ rfl b8 0 rfl ([.int .i64 a.proc, .int .i64 a.edge, .int .i64 a.wth, .int .i64 a.wthE, .string a.dst, .int .i64 a.bad, .slice p1 p2 p3, .slice p4 p5 p6, .int .u64 (a.turns : Int)]) _ HRG.out Try.underlying44 rfl sz_Move ?_) | (refine stop_call { callee := .builtin .append, args := #[.tmp 28, .tmp 30], argTypes := #[38, 38] } rfl ?_))
    refine Stop.mk ?_
    refine wpListIn_append_own_at _ rfl (.tmp 28) (.tmp 30) _ rfl w9.heap.size 44 i0 z0 9 112 Try.underlying38 hi0 hz0 hz1 hz2 hz3 (by omega) (.slice ao k co) k fo rfl (owns_below HRO.out ((Below.refl _ _).alloc (Nat.le_refl _) _)) ⟨W.heap.size, 0, none⟩ 1 1 ([.int .i64 a.proc, .int .i64 a.edge, .int .i64 a.wth, .int .i64 a.wthE, .string a.dst, .int .i64 a.bad, .slice p1 p2 p3, .slice p4 p5 p6, .int .u64 (a.turns : Int)]) rfl rfl ?c1 ?c2 ?c3 ?c4 ?c5 ?_
    case c1 => exact fun jj u hu => by rw [Addr.add_lit, Nat.zero_add]; exact ((Holds.new W 44 ([.int .i64 a.proc, .int .i64 a.edge, .int .i64 a.wth, .int .i64 a.wthE, .string a.dst, .int .i64 a.bad, .slice p1 p2 p3, .slice p4 p5 p6, .int .u64 (a.turns : Int)] : List Value).toArray).cell jj).trans hu
    case c2 => exact List.all_eq_true.1 (oneMovG.one HG.out)
    case c3 => unfold maxLen; omega
    case c4 => omega
    case c5 => have := HA.out.lts; simp; omega
    intro v' W4 hown hgrow _ hblk
    obtain ⟨av4, cv4, rfl, _, _⟩ := owns_form hown
    have h74 : Holds W4 w.heap.size 38 [.slice ao k co] := (HA.out.box.alloc _).of_eq (hgrow.block _ (HA.out.box.alloc (.cells ([.int .i64 a.proc, .int .i64 a.edge, .int .i64 a.wth, .int .i64 a.wthE, .string a.dst, .int .i64 a.bad, .slice p1 p2 p3, .slice p4 p5 p6, .int .u64 (a.turns : Int)] : List Value).toArray 44)).lt fun he => owns_ne_holds HRO.out HA.out.box (by decide) he.symm)
    have H74 := Lib.hid h74
    have HOX := Lib.hid hown
    have HGW := Lib.hid hgrow
    have HBK := Lib.hid hblk
    clear hown hgrow hblk h74 g7 HRG
    gi_wp2_with (refine wpListIn_store1 rfl 38 _ _ rfl w.heap.size 0 (.slice av4 (k + 1) cv4) rfl rfl H74.out (Nat.le_of_ble_eq_true rfl) sz_Moves rfl rfl ?_)
    refine Named.mk (fun WZ hWZ => ?_)
    obtain ⟨r1, r2⟩ := HA.out.app (by rw [HLO.out]; exact HRO.out) HFO.out HG.out (by rw [HLO.out]; exact HOX.out) HGW.out HBK.out hWZ
    have HTZ := Lib.hid r2
    have HBZ : Hid (Below w.heap.size W WZ) := below_two HA.out.below r1.below r2.keeps.size
    have HRZ : Hid (ChL w.heap.size w9.heap.size w.heap.size w ms (k + 1) WZ) := by
      refine ⟨.slice av4 (k + 1) cv4, ?_, hj⟩
      rw [List.take_add_one, HZA.out]
      exact r1
    clear hWZ r1 r2 HOX HGW HBK H74
    gi_wp2
    refine ⟨HTZ.out.keeps, ⟨HBZ.out, HTZ.out.safe⟩, ?_⟩
    have h3 := HRZ.out
    rw [← HLE.out] at h3
    exact h3
  case stop => exact fun D c pre W hD _ h => h.elim
  case done =>
    rintro D xs W hD hlen ⟨vo, hA, hjl⟩ hK
    subst hT
    rw [hlen, List.take_length] at hA
    have HD := Lib.hid hK
    have HMV := Lib.hid hA.moves
    have HBX := Lib.hid hA.box
    have HBW := Lib.hid hA.below
    obtain ⟨fo, hro, _⟩ := hA.row
    obtain ⟨ao, co, rfl, hco, _⟩ := owns_form hro
    clear hA hjl hK hro hlen hseq HA0 HEN HNX
    have HSW := Lib.hid (HSS.out.at HBW.out)
    gi_wp2
    refine ⟨trivial, ?_⟩
    refine (callsIn_wide.2 (HSW.out.live W s (Below.refl _ _) hs)).mono ?_
    rintro e wl ⟨hbl, vl, rfl, hvl⟩
    obtain ⟨al, cl, rfl, hcl, _, _⟩ := hvl.form
    have hll := HSS.out.llen s hs
    obtain ⟨lv, hlv⟩ : ∃ l, T.live s = l := ⟨_, rfl⟩
    obtain ⟨N, hN⟩ : ∃ N, lv.length = N := ⟨_, rfl⟩
    have HLV := Lib.hid hlv
    have HNN := Lib.hid hN
    rw [hlv] at hvl hcl hll ⊢
    rw [hN] at hcl ⊢
    have HVL := Lib.hid hvl
    have HLL := Lib.hid hll
    have HBL := Lib.hid hbl
    clear hvl hll hlv hN hbl
    gi_wp2
    refine wpIn_label ?_
    gi_wp2
    refine wpIn_wide.2 ?_
    go_loopw [37] (fun x wr => ∃ i : Nat, x = .int .i64 (i : Int) ∧ i ≤ N ∧ Hid (chooseGo T s vis (lv.drop i) = r0) ∧ Hid (Below wl.heap.size wl wr)) (fun x _ => N - (intOf x).toNat)
    case atStart => exact ⟨0, rfl, Nat.zero_le _, Lib.hid (by have h := H0.out; unfold chooseP at h; rw [HLV.out] at h; exact h), Below.refl _ _⟩
    case round =>
      obtain ⟨i, hx, hi, HR, HB⟩ := hrel
      subst hx
      have HBA : Hid (Below W.heap.size W wr) := HBL.out.trans (HB.out.mono HBL.out.size)
      have g10 := (HBX.out.belowAll HBA.out).cell 0
      simp only [List.getElem?_cons_zero] at g10
      by_cases hin : i < N
      · have hil : i < lv.length := by rw [HNN.out]; exact hin
        have hi2i : (i : Int) < (N : Int) := by omega
        have hi0i : (0 : Int) ≤ (i : Int) := by omega
        have hwii : IntKind.i64.wrap (i : Int) = (i : Int) := by rw [IntKind.wrap_i64]; have := HLL.out.1; have := HNN.out; omega
        have hwji : IntKind.i64.wrap ((i : Int) + 1) = (i : Int) + 1 := by rw [IntKind.wrap_i64]; have := HLL.out.1; have := HNN.out; omega
        obtain ⟨ga, oa, ca, x, he, hx, hc1⟩ := (HVL.out.up (Keep.below HB.out)).at1 hil
        rw [HNN.out] at he
        injection he with he _ hec
        subst he hec
        rw [List.getElem?_map, List.getElem?_eq_getElem hil] at hx
        injection hx with hx
        subst hx
        have hstep := choose_at (S := T) (s := s) (vis := vis) hil
        obtain ⟨p, hp⟩ : ∃ p, lv[i] = p := ⟨_, rfl⟩
        rw [hp] at hc1 hstep
        rw [HR.out, HMS.out] at hstep
        have hpl := HLL.out.2 p (by rw [← hp]; exact List.getElem_mem hil)
        have HST := Lib.hid hstep
        simp only [natV] at hc1
        have HC := Lib.hid (aloneFn (p := (p : Int)) (HMV.out.up (Keep.below HBA.out)) hxn)
        obtain ⟨ra, hra⟩ : ∃ r, aloneP (p : Int) ms = r := ⟨_, rfl⟩
        rw [hra] at HC HST
        have HRA := Lib.hid hra
        clear hstep hp hra
        go_wp2_with (fail)
        refine HC.out.mono ?_
        rintro e w2 ⟨hb2, vl2, rfl, hvl2⟩
        obtain ⟨l2, o2⟩ := ra
        dsimp only at hvl2 HST
        have HB2 : Hid (Below wl.heap.size wl w2) := HB.out.trans (hb2.mono HB.out.size)
        have HV2 := Lib.hid hvl2
        obtain ⟨f2, hr2, hg2⟩ := hvl2
        obtain ⟨a2, c2, rfl, hc2, _, _⟩ := hr2.form
        obtain ⟨L, hL⟩ : ∃ L, l2.length = L := ⟨_, rfl⟩
        have HLL2 := Lib.hid hL
        have HR2 := Lib.hid hr2
        have HG2 := Lib.hid hg2
        rw [hL] at HV2 hc2 ⊢
        clear hb2 hr2 hg2 HC g10 hL hc1
        cases o2 with
        | false =>
          have HNO : Hid (chooseGo T s vis (lv.drop (i + 1)) = r0) := by
            show _ = _
            rw [HST.out, fine_no1 (by rw [HMS.out, HRA.out])]; rfl
          clear HST HV2 HR2 HG2
          go_wp2
          refine ⟨⟨i + 1, by simp, by omega, HNO, HB2⟩, ?_⟩
          simp [intOf]
          omega
        | true =>
          have HBA2 : Hid (Below W.heap.size W w2) := HBL.out.trans (HB2.out.mono HBL.out.size)
          have HHE := Lib.hid (HSW.out.here w2 s (p : Int) HBA2.out hs)
          have hsm := HSS.out.sml s (p : Int) hs
          obtain ⟨hf, hhf⟩ : ∃ f, T.here s (p : Int) = f := ⟨_, rfl⟩
          have HHF := Lib.hid hhf
          rw [hhf] at HHE hsm
          have HSM := Lib.hid hsm
          clear hhf hsm
          go_wp2_with (fail)
          refine HHE.out.mono ?_
          rintro e w3 ⟨hb3, v3, rfl, ur, uw, rfl, k2, k3⟩
          have c2' := k2.cell1
          have c3' := k3.cell1
          obtain ⟨tz, htz⟩ : ∃ n : Nat, hf.turns = n := ⟨_, rfl⟩
          have HTZ := Lib.hid htz
          have hand : bits BinOp.and IntKind.u64 (hf.turns : Int) (vis : Int) = ((hf.turns &&& vis : Nat) : Int) := bits_and_u64_nat _ _ HSM.out.2.2 HV.out
          rw [htz] at hand ⊢
          have hone : ([ur, uw, .int .u64 (tz : Int)] : List Value).all (·.oneCell') = true := by simp [c2', c3']; simp [Value.oneCell']
          have HZ3 := Lib.hid (Holds.new w3 25 #[.slice none 0 0, .slice none 0 0, .int .u64 0])
          go_upto_region 14 with (refine wpList_storeB rfl 25 _ _ rfl w3.heap.size 0 [ur, uw, .int .u64 (tz : Int)] rfl rfl HZ3.out (Nat.le_of_ble_eq_true rfl) foot_len hone ?_)
          refine Named.mk (fun w4 hW4 => ?_)
          have hb4 : Below w3.heap.size w3 w4 := by rw [hW4]; exact Below.far (Below.refl _ _) (Nat.le_refl _) _ _ _
          have h17 : Holds w4 w3.heap.size 25 [ur, uw, .int .u64 (tz : Int)] := HZ3.out.stored hW4 (Nat.le_of_ble_eq_true rfl)
          have x2 := h17.cell 2
          have x1 := h17.cell 1
          have x0 := h17.cell 0
          simp only [List.getElem?_cons_zero, List.getElem?_cons_succ] at x0 x1 x2
          have HB4 : Hid (Below wl.heap.size wl w4) := HB2.out.trans ((hb3.trans (hb4.mono hb3.size)).mono HB2.out.size)
          have H17 := Lib.hid h17
          have HFT : Hid (FtV (From w2.heap.size) w4 (.agg #[ur, uw, .int .u64 (tz : Int)]) hf) := ⟨ur, uw, by rw [HTZ.out], k2.up (Keep.below hb4), k3.up (Keep.below hb4)⟩
          have HV4 := Lib.hid (HV2.out.up (Keep.below (hb3.trans (hb4.mono hb3.size))))
          have HR4 := Lib.hid (HR2.out.up (Keep.below (hb3.trans (hb4.mono hb3.size))))
          have HG4 := Lib.hid (LsF.up (fun _ _ => oneMv.up (Keep.below (hb3.trans (hb4.mono hb3.size)))) _ HG2.out)
          clear hb3 k2 k3 htz hb4 h17 HHE HV2 HR2 HG2 hW4 hone HZ3
          obtain ⟨b17, hb17⟩ : ∃ b, w3.heap.size = b := ⟨_, rfl⟩
          rw [hb17] at H17 x0 x1 x2 ⊢
          clear hb17
          by_cases hz : tz &&& vis = 0
          · have d1 : (((tz &&& vis : Nat) : Int) != 0) = false := by rw [hz]; rfl
            have HZ := Lib.hid hz
            clear hz
            go_wp2_with (fail)
            go_loopw [60] (fun x wr => ∃ j : Nat, x = .int .i64 (j : Int) ∧ j ≤ N ∧ Hid (∀ q ∈ lv.take j, q = p ∨ apartP hf (T.ever s (q : Int)) = true) ∧ Hid (Below w4.heap.size w4 wr)) (fun x _ => N - (intOf x).toNat)
            case atStart => exact ⟨0, rfl, Nat.zero_le _, by show ∀ q ∈ _, _; simp, Below.refl _ _⟩
            case round =>
              obtain ⟨j, hx, hj, HA, HBI⟩ := hrel
              subst hx
              have HBJ : Hid (Below wl.heap.size wl wr) := HB4.out.trans (HBI.out.mono HB4.out.size)
              have HBK : Hid (Below W.heap.size W wr) := HBL.out.trans (HBJ.out.mono HBL.out.size)
              by_cases hjn : j < N
              · have hjl : j < lv.length := by rw [HNN.out]; exact hjn
                have hj2j : (j : Int) < (N : Int) := by omega
                have hj0j : (0 : Int) ≤ (j : Int) := by omega
                have hwjj : IntKind.i64.wrap ((j : Int) + 1) = (j : Int) + 1 := by rw [IntKind.wrap_i64]; have := HLL.out.1; have := HNN.out; omega
                obtain ⟨gb, ob, cb, x, he, hx, hc2⟩ := (HVL.out.up (Keep.below HBJ.out)).at1 hjl
                rw [HNN.out] at he
                injection he with he _ hec
                injection he with he
                injection he with he1 he2
                subst he1 he2 hec
                rw [List.getElem?_map, List.getElem?_eq_getElem hjl] at hx
                injection hx with hx
                subst hx
                obtain ⟨q, hq⟩ : ∃ q, lv[j] = q := ⟨_, rfl⟩
                rw [hq] at hc2
                simp only [natV] at hc2
                have HQ : Hid (q ∈ lv) := by show q ∈ lv; rw [← hq]; exact List.getElem_mem hjl
                have hst : ∀ P : Nat → Prop, (∀ q ∈ lv.take j, P q) → P q → ∀ q ∈ lv.take (j + 1), P q := fun P h1 h2 r hr => by
                  rw [List.take_add_one, List.getElem?_eq_getElem hjl, hq] at hr
                  rcases List.mem_append.1 hr with hr | hr
                  · exact h1 r hr
                  · simp at hr; rw [hr]; exact h2
                have HSTJ := Lib.hid hst
                have hql := HLL.out.2 q HQ.out
                clear hst hq
                by_cases hqp : q = p
                · have d2 : ((q : Int) != (p : Int)) = false := by rw [hqp]; simp
                  have HNX : Hid (∀ q ∈ lv.take (j + 1), q = p ∨ apartP hf (T.ever s (q : Int)) = true) := HSTJ.out _ HA.out (.inl hqp)
                  clear hqp
                  go_wp2_with (fail)
                  go_quiet (fail)
                  go_wp2
                  refine ⟨⟨j + 1, by simp, by omega, HNX, Lib.hid (((Fr.of_below HBI.out (fun _ => False)).drewN _).to_below (Nat.le_refl _) fun _ _ h => h)⟩, ?_⟩
                  simp [intOf]
                  omega
                · have d2 : ((q : Int) != (p : Int)) = true := by rw [bne_iff_ne]; omega
                  have HQP : Hid (q ≠ p) := hqp
                  have m7 := HSS.out.mE
                  have m8 := HSS.out.eE
                  have HEV : Hid (∀ V, Below wr.heap.size wr V → Calls Try.prog J.fE #[I.dyn, .string s, .int .i64 (q : Int)] V (FootP (T.ever s (q : Int)) V)) := fun V hV => HSW.out.ever V s (q : Int) (HBK.out.trans (hV.mono HBK.out.size)) hs
                  have HSQ := Lib.hid (HSS.out.sml s (q : Int) hs).2.1
                  obtain ⟨ef, hef⟩ : ∃ f, T.ever s (q : Int) = f := ⟨_, rfl⟩
                  rw [hef] at HEV HSQ
                  have HEF := Lib.hid hef
                  obtain ⟨b, hb⟩ : ∃ b, apartP hf ef = b := ⟨_, rfl⟩
                  have HB' := Lib.hid hb
                  have HFI := Lib.hid (HFT.out.up (Keep.below HBI.out))
                  obtain ⟨S, hS⟩ : ∃ S : World → Prop, S = fun V => Below wr.heap.size wr V := ⟨_, rfl⟩
                  have hCc : Hid (∀ V, S V → S V ∧ V.cell? ⟨b17, 0, none⟩ = some ur ∧ V.cell? ⟨b17, 1, none⟩ = some uw ∧ V.cell? ⟨b17, 2, none⟩ = some (.int .u64 (tz : Int))) := by
                    rw [hS]
                    intro V hV
                    have h := (H17.out.belowAll HBI.out).belowAll hV
                    exact ⟨hV, h.cell 0, h.cell 1, h.cell 2⟩
                  have hS0 := Lib.hid (hCc.out wr.drew (by rw [hS]; exact (Below.refl _ _).drew))
                  have HEV' : Hid (∀ V, S V → Calls Try.prog J.fE #[I.dyn, .string s, .int .i64 (q : Int)] V (fun e V' => S V' ∧ ∃ v, e = .returned v ∧ Below V.heap.size V V' ∧ FtV (From V.heap.size) V' v ef)) := by
                    rw [hS]
                    exact fun V hV => (HEV.out V hV).mono fun e V' ⟨h1, v, h2, h3⟩ => ⟨hV.trans (h1.mono hV.size), v, h2, h1, h3⟩
                  have HAP : Hid (∀ (P : Nat → Prop) V v, S V → FtV P V v ef → Calls Try.prog 7 #[.agg #[ur, uw, .int .u64 (tz : Int)], v] V (fun e V' => S V' ∧ e = .returned (.bool b))) := by
                    rw [hS]
                    exact fun P V v hV hv => (apartFn (HFI.out.up (Keep.below hV)) HSM.out.1 hv HSQ.out).mono fun e V' ⟨h1, h2⟩ => ⟨hV.trans (h2.mono hV.size), by rw [h1, HB'.out]⟩
                  have HSE : Hid (∀ V, S V → Below wr.heap.size wr V) := by rw [hS]; exact fun V h => h
                  clear hqp hef hb HEV hS HFI
                  go_wp2_with (fail)
                  go_region_held3 (fun V : World => S V ∧ V.cell? ⟨b17, 0, none⟩ = some ur ∧ V.cell? ⟨b17, 1, none⟩ = some uw ∧ V.cell? ⟨b17, 2, none⟩ = some (.int .u64 (tz : Int))) (first | exact hS2.out | exact hS1.out | exact hS0.out) (first
                    | (go_at_call 7; refine (HAP.out _ _ _ hS1.out.1 HFE.out).mono ?_; rintro e wc ⟨hbc, rfl⟩; have hS2 := Lib.hid (hCc.out _ hbc); clear hbc)
                    | (refine (HEV'.out _ (And.left (by assumption))).mono ?_; rintro e wa ⟨hba, ve, rfl, hbe, hfe⟩; have hS1 := Lib.hid (hCc.out _ hba); have HFE := Lib.hid hfe; obtain ⟨ve1, ve2, rfl, hve1, hve2⟩ := hfe; clear hba hbe hve1 hve2))
                  have HBC : Hid (Below w4.heap.size w4 wc) := HBI.out.trans ((HSE.out wc hS2.out.1).mono HBI.out.size)
                  clear hS0 hS1 hS2 HFE HAP HEV' hCc HSE
                  cases b with
                  | true =>
                    have HNX : Hid (∀ q ∈ lv.take (j + 1), q = p ∨ apartP hf (T.ever s (q : Int)) = true) := HSTJ.out _ HA.out (.inr (by rw [HEF.out]; exact HB'.out))
                    go_wp2
                    refine ⟨⟨j + 1, by simp, by omega, HNX, HBC⟩, ?_⟩
                    simp [intOf]
                    omega
                  | false =>
                    have HNO : Hid (chooseGo T s vis (lv.drop (i + 1)) = r0) := by
                      show _ = _
                      rw [HST.out, fine_no3 (by rw [HLV.out]; exact HQ.out) HQP.out (by rw [HHF.out, HEF.out]; exact HB'.out)]; rfl
                    have HBC2 : Hid (Below wl.heap.size wl wc) := HB4.out.trans (HBC.out.mono HB4.out.size)
                    go_wp2
                    refine ⟨⟨i + 1, by simp, by omega, HNO, HBC2⟩, ?_⟩
                    simp [intOf]
                    omega
              · obtain rfl : j = N := by omega
                have HYES : Hid ((l2, true) = r0) := by
                  show _ = _
                  rw [HST.out, fine_yes (by rw [HMS.out, HRA.out]) (by rw [HHF.out, HTZ.out]; exact HZ.out) (by
                    rw [HLV.out, HHF.out]
                    have h := HA.out
                    rw [List.take_of_length_le (by rw [HNN.out]; exact Nat.le_refl _)] at h
                    exact h)]
                  rfl
                have HR5 := Lib.hid (HR4.out.up (Keep.below HBI.out))
                have HG5 := Lib.hid (LsF.up (fun _ _ => oneMv.up (Keep.below HBI.out)) _ HG4.out)
                have HV5 := Lib.hid (HV4.out.up (Keep.below HBI.out))
                have hLs : L ≤ 9223372036854775807 := by have := HLL2.out; omega
                clear HST HA HR4 HG4 HV4 x0 x1 x2 HBI
                go_wp2
                go_loopw [79] (fun x wr3 => ∃ k : Nat, x = .int .i64 (k : Int) ∧ k ≤ L ∧ Hid (Below wr.heap.size wr wr3)) (fun x _ => L - (intOf x).toNat)
                case atStart => exact ⟨0, rfl, Nat.zero_le _, Below.refl _ _⟩
                case round =>
                  obtain ⟨k, hx, hk, HBL3⟩ := hrel
                  subst hx
                  by_cases hkL : k < L
                  · have hkl : k < l2.length := by rw [HLL2.out]; exact hkL
                    have hk2k : (k : Int) < (L : Int) := by omega
                    have hk0k : (0 : Int) ≤ (k : Int) := by omega
                    have hwkk : IntKind.i64.wrap ((k : Int) + 1) = (k : Int) + 1 := by rw [IntKind.wrap_i64]; omega
                    obtain ⟨gm, om, cm, cs, he, hG, hrr⟩ := (HR5.out.up (Keep.below HBL3.out)).atN oneMv (LsF.up (fun _ _ => oneMv.up (Keep.below HBL3.out)) _ HG5.out) hkl
                    injection he with he _ hec
                    subst he hec
                    obtain ⟨m, hm⟩ : ∃ m, l2[k] = m := ⟨_, rfl⟩
                    rw [hm] at hG
                    have hone := oneMv.one hG
                    have hlen := oneMv.len hG
                    obtain ⟨vr, vw, rfl, p1, p2⟩ := hG
                    obtain ⟨a1, k1, rfl, _, _, _⟩ := p1.form
                    obtain ⟨a2, k2, rfl, _, _, _⟩ := p2.form
                    have HRR := Lib.hid hrr
                    have HZA := Lib.hid (Holds.new wr 44 #[.int .i64 0, .int .i64 0, .int .i64 0, .int .i64 0, .string ⟨#[]⟩, .int .i64 0, .slice none 0 0, .slice none 0 0, .int .u64 0])
                    clear hrr p1 p2 hm
                    go_wp2_with (first | (refine wpList_load_mid rfl 44 _ rfl gm (om + k * 9) rfl (mvC m (.slice a1 m.reads.length k1) (.slice a2 m.writes.length k2)) _ HRR.out Try.underlying44 rfl sz_Move ?_) | (refine wpList_storeB rfl 44 _ _ rfl wr.heap.size 0 (mvC m (.slice a1 m.reads.length k1) (.slice a2 m.writes.length k2)) rfl rfl HZA.out (Nat.le_of_ble_eq_true rfl) sz_Move hone ?_))
                    refine Named.mk (fun w6 hW6 => ?_)
                    have hb6 : Below wr.heap.size wr w6 := by rw [hW6]; exact Below.far (Below.refl _ _) (Nat.le_refl _) _ _ _
                    have HB6 := Lib.hid (HBL3.out.trans (hb6.mono HBL3.out.size))
                    clear hW6 hb6 HZA HRR hone
                    go_wp2
                    refine ⟨⟨k + 1, by simp, by omega, HB6⟩, ?_⟩
                    simp [intOf]
                    omega
                  · obtain rfl : k = L := by omega
                    have HV6 := Lib.hid (HV5.out.up (Keep.below HBL3.out))
                    have hbz := HBK.out.trans (HBL3.out.mono HBK.out.size)
                    have HP : Hid (∀ w', Fr (fun q => q = D) wr w' → ChPost r0 w (.returned (.tuple #[.slice a2 k c2, .bool true])) w') := fun w' hf => by
                      have hDD : wr.heap[D]? = some (.deferred (some [])) := (hbz.block D (Array.getElem?_eq_some_iff.1 HD.out).1).trans HD.out
                      have hFD : ∀ q, q = D → ∃ o : Obj, wr.heap[q]? = some o ∧ o.isCells = false := fun q hq => by rw [hq]; exact ⟨_, hDD, rfl⟩
                      have hbw : Below w.heap.size w wr := HBW.out.trans (hbz.mono HBW.out.size)
                      refine ⟨hbw.trans (hf.to_below hbw.size fun q hq e => by omega), _, by rw [← HYES.out], ?_⟩
                      rw [← HYES.out]
                      exact HV6.out.keptF hf hFD
                    have HDD : Hid (wr.heap[D]? = some (.deferred (some []))) := (hbz.block D (Array.getElem?_eq_some_iff.1 HD.out).1).trans HD.out
                    clear hbz HV6 HR5 HG5 HV5 HYES HBL3
                    go_wp2
                    rw [Exit.noGoto_ret]
                    exact leaves_marks (by simp) [D] wr (by simp) (fun E hE => by rw [List.mem_singleton] at hE; rw [hE]; exact HDD.out) fun w' hf => ⟨_, results_tmp89 _ _, HP.out w' (hf.mono fun q _ hq => by simpa using hq)⟩
          · have d1 : (((tz &&& vis : Nat) : Int) != 0) = true := by rw [bne_iff_ne]; omega
            have HNO : Hid (chooseGo T s vis (lv.drop (i + 1)) = r0) := by
              show _ = _
              rw [HST.out, fine_no2 (by rw [HHF.out, HTZ.out]; exact hz)]; rfl
            clear HST HV4 HR4 HG4 hz
            go_wp2
            refine ⟨⟨i + 1, by simp, by omega, HNO, HB4⟩, ?_⟩
            simp [intOf]
            omega
      · obtain rfl : i = N := by omega
        have hz := HR.out
        rw [List.drop_of_length_le (by rw [HNN.out]; exact Nat.le_refl _), chooseGo, HMS.out] at hz
        have HMV2 := Lib.hid (HMV.out.up (Keep.below HBA.out))
        have HP : Hid (∀ w', Fr (fun q => q = D) wr w' → ChPost r0 w (.returned (.tuple #[.slice ao ms.length co, .bool false])) w') := fun w' hf => by
          have hDD : wr.heap[D]? = some (.deferred (some [])) := (HBA.out.block D (Array.getElem?_eq_some_iff.1 HD.out).1).trans HD.out
          have hFD : ∀ q, q = D → ∃ o : Obj, wr.heap[q]? = some o ∧ o.isCells = false := fun q hq => by rw [hq]; exact ⟨_, hDD, rfl⟩
          have hbw : Below w.heap.size w wr := HBW.out.trans (HBA.out.mono HBW.out.size)
          refine ⟨hbw.trans (hf.to_below hbw.size fun q hq e => by omega), _, by rw [← hz], ?_⟩
          rw [← hz]
          exact HMV2.out.keptF hf hFD
        have HDD : Hid (wr.heap[D]? = some (.deferred (some []))) := (HBA.out.block D (Array.getElem?_eq_some_iff.1 HD.out).1).trans HD.out
        clear hz HR HB
        go_wp2
        gi_wp2
        exact leaves_marks (by simp) [D] wr (by simp) (fun E hE => by rw [List.mem_singleton] at hE; rw [hE]; exact HDD.out) fun w' hf => ⟨_, results_tmp89 _ _, HP.out w' (hf.mono fun q _ hq => by simpa using hq)⟩
end Go.Proofs.Ytcopoaaofjeklaa.G
