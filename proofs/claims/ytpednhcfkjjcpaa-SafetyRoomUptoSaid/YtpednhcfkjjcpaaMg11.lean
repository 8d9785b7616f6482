/- Cho, Umv, joined. -/
import Derived.Test.YtpednhcfkjjcpaaMg10
import Derived.Sort.CutIn
section
/- A range's body that gathers moves: what lies in memory. -/
namespace Go.Proofs.Ytpednhcfkjjcpaa.G
open Go.RowKit Go.Maps
set_option linter.unusedVariables false
set_option linter.unusedSimpArgs false

structure ChO (base lo b7 : Nat) (w0 : World) (l : List PMove) (vo : Value) (W : World) : Prop where
  below : Below base w0 W
  box : Holds W b7 28 [vo]
  row : ∃ fo, W.ownsRow lo 75 9 vo l.length fo ∧ LsF MovG (fun q => lo ≤ q ∧ vo.ownBlock ≠ some q) W l fo
  lts : base ≤ b7 ∧ b7 < lo ∧ lo ≤ W.heap.size ∧ base ≤ w0.heap.size
section
variable {base lo b7 : Nat} {w0 W W' : World} {l : List PMove} {vo : Value}
theorem ChO.fresh (h : ChO base lo b7 w0 l vo W) (hb : Below W.heap.size W W') : ChO base lo b7 w0 l vo W' := by
  obtain ⟨fo, h1, h2⟩ := h.row
  have hl := h.lts
  exact ⟨h.below.trans (hb.mono (by omega)), h.box.belowAll hb, ⟨fo, owns_below h1 hb, LsF.up (fun _ _ => oneMovG.up (Keep.below hb)) _ h2⟩, by have := hb.size; omega⟩
theorem ChO.kept (h : ChO base lo b7 w0 l vo W) {row : Option Nat} (hg : W.grownBy W' row) (hr : ∀ r, row = some r → lo ≤ r ∧ ∃ o : Obj, W.heap[r]? = some o ∧ o.isCells = false) : ChO base lo b7 w0 l vo W' := by
  obtain ⟨fo, h1, h2⟩ := h.row
  have hl := h.lts
  have hr2 : ∀ r, row = some r → ∃ o : Obj, W.heap[r]? = some o ∧ o.isCells = false := fun r e => (hr r e).2
  exact ⟨h.below.grown hg (by have := h.below.size; omega) fun k hk => by have := (hr k hk).1; omega, h.box.kept_row hg hr2, ⟨fo, owns_kept h1 hg hr2, LsF.up (fun _ _ => MovG.kept hg hr2) _ h2⟩, by have := hg.size; omega⟩
theorem ChO.app {y : PMove} {vo' : Value} {fo c : List Value} {W4 W5 : World} {o : Obj} (h : ChO base lo b7 w0 l vo W) (hr : W.ownsRow lo 75 9 vo l.length fo) (hfo : LsF MovG (fun q => lo ≤ q ∧ vo.ownBlock ≠ some q) W l fo) (hy : MovG (fun q => lo ≤ q ∧ vo.ownBlock ≠ some q) W y c)
    (hown : W4.ownsRow lo 75 9 vo' (l.length + 1) (fo ++ c)) (hgr : (W.alloc o).grownBy W4 vo.ownBlock) (hblk : vo'.ownBlock = vo.ownBlock ∨ vo'.ownBlock = some (W.alloc o).heap.size) (hW : W5 = setR W4 b7 0 [vo']) : ChO base lo b7 w0 (l ++ [y]) vo' W5 ∧ Turns lo W W5 := by
  have hl := h.lts
  have hvl := owns_lt hr
  have hvg := owns_ge hr
  have hs9 : W.heap.size ≤ (W.alloc o).heap.size := by simp
  have hf4 : Fr (fun q => vo.ownBlock = some q) W W4 := ((Fr.refl _ W).alloc o).grown hgr fun q hq _ => hq
  have hf5 : Fr (fun q => q = b7) W4 W5 := by rw [hW]; exact Fr.setRX _ _ 0 _
  have hf : Fr (fun q => q = b7 ∨ vo.ownBlock = some q) W W5 := (hf4.mono fun _ _ h => .inr h).trans hf5 fun q _ hq => .inl hq
  have hb4 : Holds W4 b7 28 [vo] := hf4.holds h.box (owns_ne_holds hr h.box (by decide))
  have hv : ∀ k, k < W.heap.size → vo.ownBlock ≠ some k → vo'.ownBlock ≠ some k := fun k hk hn he => by
    rcases hblk with hb | hb
    · rw [hb] at he; exact hn he
    · rw [hb] at he; injection he with he; omega
  refine ⟨⟨h.below.trans (hf.to_below (by omega) fun k hk hor => ?_), hb4.stored hW (Nat.le_refl _), ⟨fo ++ c, by rw [List.length_append]; exact hf5.owns hown fun g hgg he => owns_ne_holds hown hb4 (by decide) (by rw [← he]; exact hgg), ?_⟩, by have := hf.size; omega⟩, Turns.of hf fun k hk => ?_⟩
  · rcases hor with rfl | hor
    · omega
    · have := hvg k hor; omega
  · have a0 := LsF.mono (fun _ _ => MovG.mono (Wide.in_ (w := W))) _ (LsF.append hfo (LsF.sing hy))
    have a2 := LsF.up (w' := W5) (fun _ _ => oneMovG.up fun k hk hs => hf.block k hs fun hor => hor.elim (fun e => by have := hk.1.1; omega) hk.1.2) _ a0
    exact LsF.mono (fun _ _ => MovG.mono fun k hk _ => ⟨hk.1.1, hv k hk.2 hk.1.2⟩) _ a2
  · rcases hk with rfl | hk
    · exact .inl ⟨_, _, h.box, safe_not (by decide) (by decide) (.inl (by decide))⟩
    · obtain ⟨cs, hh⟩ := owns_holds hr hk
      exact .inl ⟨_, _, hh, safe_not (by decide) (by decide) (.inl (by decide))⟩
theorem ChO.moves (h : ChO base lo b7 w0 l vo W) : MvsV (fun _ => True) W vo l := by
  obtain ⟨fo, h1, h2⟩ := h.row
  exact ⟨fo, RowL.of_owns h1 fun _ _ => trivial, LsF.mono (fun _ _ => MvF.mono fun _ _ _ => trivial) _ (LsF.imp (Q := fun q => lo ≤ q ∧ vo.ownBlock ≠ some q) (fun _ _ => MvF.of) _ h2)⟩
end
theorem MvsV.keptF {F P : Nat → Prop} {w w' : World} {v : Value} {l : List PMove} (h : MvsV P w v l) (hf : Fr F w w') (hF : ∀ k, F k → ∃ o : Obj, w.heap[k]? = some o ∧ o.isCells = false) : MvsV P w' v l := by
  obtain ⟨f, h1, h2⟩ := h
  exact ⟨f, h1.keptF hf hF, LsF.up (fun _ _ ⟨vr, vw, q1, q2, q3⟩ => ⟨vr, vw, q1, q2.keptF hf hF, q3.keptF hf hF⟩) _ h2⟩
/-- What holds behind the j-th round; what a body begins with. -/
def ChL (base lo b7 : Nat) (w0 : World) (l : List PMove) (j : Nat) (W : World) : Prop := ∃ vo, ChO base lo b7 w0 (l.take j) vo W ∧ j ≤ l.length
def ChB (base lo b7 : Nat) (w0 : World) (l : List PMove) (j b8 : Nat) (W : World) : Prop := ∃ (hj : j < l.length) (vo vr vw : Value), ChO base lo b7 w0 (l.take j) vo W ∧ Holds W b8 75 (mvC l[j] vr vw) ∧ MovG (fun q => lo ≤ q ∧ vo.ownBlock ≠ some q) W l[j] (mvC l[j] vr vw)
theorem ChL.kept {base lo b7 : Nat} {w0 W W' : World} {j : Nat} {l : List PMove} {row : Option Nat} (h : ChL base lo b7 w0 l j W) (hg : W.grownBy W' row) (hr : ∀ r, row = some r → lo ≤ r ∧ ∃ o : Obj, W.heap[r]? = some o ∧ o.isCells = false) : ChL base lo b7 w0 l j W' := by
  obtain ⟨vo, h1, h2⟩ := h
  exact ⟨vo, h1.kept hg hr, h2⟩
theorem ChB.kept {base lo b7 b8 : Nat} {w0 W W' : World} {j : Nat} {l : List PMove} {row : Option Nat} (h : ChB base lo b7 w0 l j b8 W) (hg : W.grownBy W' row) (hr : ∀ r, row = some r → lo ≤ r ∧ ∃ o : Obj, W.heap[r]? = some o ∧ o.isCells = false) : ChB base lo b7 w0 l j b8 W' := by
  obtain ⟨hj, vo, vr, vw, h1, h3, h4⟩ := h
  exact ⟨hj, vo, vr, vw, h1.kept hg hr, h3.kept_row hg fun r e => (hr r e).2, MovG.kept hg (fun r e => (hr r e).2) h4⟩
theorem ChB.start {base lo b7 b8 : Nat} {w0 W0 W W' : World} {j : Nat} {l : List PMove} {vr vw : Value} (h : ChL base lo b7 w0 l j W0) (hb : Tol lo W0 W) (hj : j < l.length) (hr : RowX W0.heap.size W vr l[j].reads) (hw : RowX W0.heap.size W vw l[j].writes) (hb2 : Below W.heap.size W W') (h8 : Holds W' b8 75 (mvC l[j] vr vw)) : ChB base lo b7 w0 l j b8 W' := by
  obtain ⟨vo, h1, h3⟩ := h
  obtain ⟨fo, k1, _⟩ := h1.row
  have hlts := h1.lts
  have hwide : Wide (From W0.heap.size) (fun q => lo ≤ q ∧ vo.ownBlock ≠ some q) W' := fun k hk _ => ⟨by have : W0.heap.size ≤ k := hk; omega, fun e => by have := owns_lt k1 k e; have : W0.heap.size ≤ k := hk; omega⟩
  have hr2 := hr.below hb2
  have hw2 := hw.below hb2
  exact ⟨hj, vo, vr, vw, ((hb (fun W => ChO base lo b7 w0 (l.take j) vo W) (fun _ A C row hs hg hr => hs.kept hg hr) h1).fresh hb2), h8, ⟨vr, vw, rfl, ⟨hr2.2.mono hwide, hr2.si.mono hwide⟩, hw2.2.mono hwide, hw2.si.mono hwide⟩⟩
/-- Moves that lie from a block on. -/
theorem ChO.movesFrom {base lo b7 B : Nat} {w0 W : World} {l : List PMove} {vo : Value} (h : ChO base lo b7 w0 l vo W) (hB : B ≤ lo) : MvsV (fun q => B ≤ q) W vo l := by
  obtain ⟨fo, h1, h2⟩ := h.row
  exact ⟨fo, RowL.of_owns h1 fun _ hk => Nat.le_trans hB hk, LsF.mono (fun _ _ => MvF.mono fun _ hk _ => Nat.le_trans hB hk.1) _ (LsF.imp (Q := fun q => lo ≤ q ∧ vo.ownBlock ≠ some q) (fun _ _ => MvF.of) _ h2)⟩
end Go.Proofs.Ytpednhcfkjjcpaa.G
end
section
/- The walk of the search's moves, where all are followed. (printed by mkumv.py out of XAch) -/
namespace Go.Proofs.Ytpednhcfkjjcpaa.G
open Go.RowKit Go.Maps
set_option linter.unusedVariables false
set_option linter.unusedSimpArgs false
attribute [local go_sem] Oper.semAt_some run_makeMap

theorem results_tmp4m (tmps : Array Value) (w : World) : (results Try.f35 tmps).run Try.prog w = .ok (tmps.getD 4 undef) w := by
  simp [results, Try.f35]
def MvPost (l : List PMove) (w : World) (e : Ending) (w' : World) : Prop := Below w.heap.size w w' ∧ ∃ vl, e = .returned vl ∧ MvsV (fun q => w.heap.size ≤ q) w' vl l
set_option maxHeartbeats 4000000 in
set_option maxRecDepth 100000 in
theorem mvsFn {I : Ifc} {S : Sys} {w : World} {s : ByteArray} {X : Nat} {cs : List Value} (hS : SysOk I S w) (hs : s.size ≤ 1048576) (hx : Holds w X 64 cs) (c0 : cs[0]? = some (.iface I.tid I.dyn)) (c7 : cs[7]? = some (.bool false)) : Calls Try.prog 35 #[.pointer (some ⟨X, 0, none⟩), .string s] w (MvPost (S.next s) w) := by
  have m1 := hS.mN
  have m2 := hS.eN
  have HSS := Lib.hid hS
  have hxn := hS.small.len s hs
  obtain ⟨ms, hms⟩ : ∃ l, S.next s = l := ⟨_, rfl⟩
  have HNX := Lib.hid hS.next
  have HEN := Lib.hid hS.enter
  rw [hms] at hxn ⊢
  have HMS := Lib.hid hms
  obtain ⟨wa, hwa⟩ : ∃ W, W = w.alloc (.cells #[.pointer (some ⟨X, 0, none⟩)] 58) := ⟨_, rfl⟩
  have hba : Below w.heap.size w wa := by rw [hwa]; exact (Below.refl _ _).alloc (Nat.le_refl _) _
  have h2 : Holds wa w.heap.size 58 [.pointer (some ⟨X, 0, none⟩)] := by rw [hwa]; exact Holds.new w 58 #[.pointer (some ⟨X, 0, none⟩)]
  have hxa := hx.belowAll hba
  have sza : wa.heap.size = w.heap.size + 1 := by rw [hwa]; simp
  obtain ⟨w1, hw1⟩ : ∃ W, W = wa.alloc (.cells #[.slice none 0 0] 28) := ⟨_, rfl⟩
  have hb1 : Below wa.heap.size wa w1 := by rw [hw1]; exact (Below.refl _ _).alloc (Nat.le_refl _) _
  have h7 : Holds w1 (w.heap.size + 1) 28 [.slice none 0 0] := by
    have h := Holds.new wa 28 #[.slice none 0 0]
    rw [sza] at h
    rw [hw1]; exact h
  have hx1 := hxa.belowAll hb1
  have h21 := h2.belowAll hb1
  have a2 := h2.cell 0
  have a7 := hxa.cell 7
  rw [c7] at a7
  have q2 := h21.cell 0
  have q0 := hx1.cell 0
  rw [c0] at q0
  simp only [List.getElem?_cons_zero] at a2 q2
  have HBA := Lib.hid hba
  have HB1 : Hid (Below w.heap.size w w1) := hba.trans (hb1.mono (by rw [sza]; omega))
  have H7 := Lib.hid h7
  have HSZ := Lib.hid sza
  clear hS hms hx c0 c7 hba h2 hxa hb1 h7 hx1 h21 sza
  refine (callsIn_wide (n := 5)).1 ?_
  refine callsIn_of_wp_marks Try.func35 rfl trivial ?_ rfl
  simp only [Try.ntmps35, List.size_toArray, List.length_cons, List.length_nil, Nat.reduceAdd, Nat.reduceSub, Array.replicate_succ, Array.replicate_zero, List.push_toArray, List.append_toArray, List.nil_append, List.cons_append]
  gi_upto_region 1 with (fail)
  rw [← hwa]
  clear hwa
  gi_upto_region 3 with (fail)
  rw [← hw1, HSZ.out]
  clear hw1 a2 a7
  gi_wp2_with fail
  refine ⟨trivial, ?_⟩
  refine (callsIn_wide.2 (HNX.out w1 s HB1.out hs)).mono ?_
  rintro e w9 ⟨hb9, f, rfl, lb, rfl, hit⟩
  have HB9 : Hid (Below w.heap.size w w9) := HB1.out.trans (hb9.mono HB1.out.size)
  have HA0 : Hid (ChL w.heap.size w9.heap.size (w.heap.size + 1) w ms 0 w9) := by
    refine ⟨.slice none 0 0, ⟨HB9.out, H7.out.belowAll hb9, ⟨[], ⟨rfl, .inl ⟨rfl, rfl⟩⟩, rfl⟩, Nat.le_succ _, ?_, Nat.le_refl _, Nat.le_refl _⟩, Nat.zero_le _⟩
    have := (H7.out.belowAll hb9).lt; exact this
  have hbl : w.heap.size ≤ w9.heap.size := HB9.out.size
  rw [HMS.out] at hit
  have hseq := hit 4 w.heap.size w9 (Nat.le_refl _) hbl (Below.refl _ _)
  clear hit
  clear hb9 H7 q0 q2
  gi_wp2
  refine wpIn_at fun T0 hT => ?_
  refine wpIn_rangeFunc_tells (α := Value) (encs := fun y => #[y]) (Kp := KpT w.heap.size w9.heap.size) (S := fun ys => ys.length = ms.length) (Sp := fun _ => True) (N := ms.length) (w0 := w9) (G := Tells ms) rfl (by omega) (gf := I.fG) (lb := lb) (by subst hT; rfl) trivial HEN.out KpT.trans (KpT.put hbl) (Below.refl _ _) (fun _ => rfl)
    (fun pre W => ChL w.heap.size w9.heap.size (w.heap.size + 1) w ms pre.length W) hseq (fun c pre W => False) ?hI ?hIx HA0.out
    (fun pre y a' W => ∃ b8, a' = { tmps := (T0.setIfInBounds 21 y).setIfInBounds 6 (.pointer (some ⟨b8, 0, none⟩)), defers := [] } ∧ ChB w.heap.size w9.heap.size (w.heap.size + 1) w ms pre.length b8 W) ?hAx ?assign ?body ?done ?stop
  case hI => exact fun pre V V' row hs hg hr => hs.kept hg hr
  case hIx => exact fun c pre V V' row hs hg hr => hs
  case hAx => exact fun pre y a' s V V' row hs hg hr => by obtain ⟨b8, h1, h2⟩ := hs; exact ⟨b8, h1, h2.kept hg hr⟩
  case assign =>
    intro l pre y W0 W K hi0 hb01 hi hG hK
    obtain ⟨hj, vr, vw, rfl, hr, hw⟩ := hG
    subst hT
    have HZ14 := Lib.hid (Holds.new W 75 #[.int .i64 0, .int .i64 0, .int .i64 0, .int .i64 0, .string ⟨#[]⟩, .int .i64 0, .slice none 0 0, .slice none 0 0, .int .u64 0])
    have hone : (mvC ms[pre.length] vr vw).all (·.oneCell') = true := by
      have q1 := hr.2.cell1
      have q2 := hw.2.cell1
      simp [mvC, q1, q2]
      simp [Value.oneCell']
    gi_wp2_with (refine wpListIn_storeB rfl 75 _ _ rfl W.heap.size 0 (mvC ms[pre.length] vr vw) rfl rfl HZ14.out (Nat.le_of_ble_eq_true rfl) sz_Move hone ?_)
    refine Named.mk (fun W' hW' => ?_)
    have hb' : Below W.heap.size W W' := by rw [hW']; exact Below.far (Below.refl _ _) (Nat.le_refl _) _ _ _
    have h14 : Holds W' W.heap.size 75 (mvC ms[pre.length] vr vw) := HZ14.out.stored hW' (Nat.le_of_ble_eq_true rfl)
    have hA := ChB.start hi0 hb01 hj hr hw hb' h14
    have hi2 : ChL w.heap.size w9.heap.size (w.heap.size + 1) w ms pre.length W' := by
      obtain ⟨vo, q1, q2⟩ := hi
      exact ⟨vo, q1.fresh hb', q2⟩
    have hbb : Below w.heap.size W W' := hb'.mono (by obtain ⟨_, q1, _⟩ := hi; have := q1.below.size; exact this)
    have hkk := (Turns.below (lo := w9.heap.size) hb').keeps
    have hbk : KpT w.heap.size w9.heap.size W W' := ⟨hbb, (Turns.below hb').safe⟩
    clear hW' h14 HZ14
    gi_wp2
    exact hK _ _ hkk hbk hi2 ⟨W.heap.size, rfl, hA⟩
  case body =>
    rintro l pre y a' W hl2 hrec hi ⟨b8, rfl, hj, vo, vr, vw, hA, h8, hG⟩ hlen
    subst hT
    obtain ⟨k, hk⟩ : ∃ k, pre.length = k := ⟨_, rfl⟩
    have HKK := Lib.hid hk
    have hkz : k < ms.length := by rw [← hk]; exact hj
    obtain ⟨a, haa⟩ : ∃ a, ms[pre.length] = a := ⟨_, rfl⟩
    have hza : ms[k]? = some a := by
      rw [List.getElem?_eq_getElem hkz]
      subst hk
      rw [haa]
    have HZA := Lib.hid hza
    rw [haa] at h8 hG
    rw [hk] at hA hj
    obtain ⟨p1, p2, p3, p4, p5, p6, rfl, rfl⟩ : ∃ p1 p2 p3 p4 p5 p6, vr = .slice p1 p2 p3 ∧ vw = .slice p4 p5 p6 := by
      obtain ⟨r2, s2, q1, ⟨q2, _⟩, q3, _⟩ := hG
      simp only [mvC, List.cons.injEq, true_and, and_true] at q1
      obtain ⟨rfl, rfl⟩ := q1
      obtain ⟨b1, d1, e1, _⟩ := q2.form
      obtain ⟨b2, d2, e2, _⟩ := q3.form
      exact ⟨_, _, _, _, _, _, e1, e2⟩
    obtain ⟨fo, hro, hfo⟩ := hA.row
    have hlo : (ms.take k).length = k := by rw [List.length_take]; omega
    obtain ⟨ao, co, hvo, hco, _⟩ := owns_form hro
    rw [hlo] at hvo hro
    subst hvo
    have g7 := hA.box.cell 0
    simp only [List.getElem?_cons_zero] at g7
    have HA := Lib.hid hA
    have HG := Lib.hid hG
    have H8 := Lib.hid h8
    have HRO := Lib.hid hro
    have HFO := Lib.hid hfo
    have HLO := Lib.hid hlo
    have HRG := Lib.hid (h8.range (i := 0) (n := 9) (xs := [.int .i64 a.proc, .int .i64 a.edge, .int .i64 a.wth, .int .i64 a.wthE, .string a.dst, .int .i64 a.bad, .slice p1 p2 p3, .slice p4 p5 p6, .int .u64 (a.turns : Int)]) rfl)
    obtain ⟨i0, z0, hi0, hz0, hz1, hz2, hz3⟩ := info_of info_move
    have HLE : Hid ((pre ++ [y]).length = k + 1) := by show _ = _; rw [List.length_append, hk]; rfl
    clear hA hG h8 hro hfo hlo hza haa hk hkz
    gi_wp2_with (first | (refine wpListIn_load_mid rfl 75 _ rfl b8 0 rfl ([.int .i64 a.proc, .int .i64 a.edge, .int .i64 a.wth, .int .i64 a.wthE, .string a.dst, .int .i64 a.bad, .slice p1 p2 p3, .slice p4 p5 p6, .int .u64 (a.turns : Int)]) _ HRG.out Try.underlying75 rfl sz_Move ?_) | (refine stop_call { callee := .builtin .append, args := #[.tmp 22, .tmp 24], argTypes := #[28, 28] } rfl ?_))
    refine Stop.mk ?_
    refine wpListIn_append_own_at _ rfl (.tmp 22) (.tmp 24) _ rfl w9.heap.size 75 i0 z0 9 112 Try.underlying28 hi0 hz0 hz1 hz2 hz3 (by omega) (.slice ao k co) k fo rfl (owns_below HRO.out ((Below.refl _ _).alloc (Nat.le_refl _) _)) ⟨W.heap.size, 0, none⟩ 1 1 ([.int .i64 a.proc, .int .i64 a.edge, .int .i64 a.wth, .int .i64 a.wthE, .string a.dst, .int .i64 a.bad, .slice p1 p2 p3, .slice p4 p5 p6, .int .u64 (a.turns : Int)]) rfl rfl ?c1 ?c2 ?c3 ?c4 ?c5 ?_
    case c1 => exact fun jj u hu => by rw [Addr.add_lit, Nat.zero_add]; exact ((Holds.new W 75 ([.int .i64 a.proc, .int .i64 a.edge, .int .i64 a.wth, .int .i64 a.wthE, .string a.dst, .int .i64 a.bad, .slice p1 p2 p3, .slice p4 p5 p6, .int .u64 (a.turns : Int)] : List Value).toArray).cell jj).trans hu
    case c2 => exact List.all_eq_true.1 (oneMovG.one HG.out)
    case c3 => unfold maxLen; omega
    case c4 => omega
    case c5 => have := HA.out.lts; simp; omega
    intro v' W4 hown hgrow _ hblk
    obtain ⟨av4, cv4, rfl, _, _⟩ := owns_form hown
    have h74 : Holds W4 (w.heap.size + 1) 28 [.slice ao k co] := (HA.out.box.alloc _).of_eq (hgrow.block _ (HA.out.box.alloc (.cells ([.int .i64 a.proc, .int .i64 a.edge, .int .i64 a.wth, .int .i64 a.wthE, .string a.dst, .int .i64 a.bad, .slice p1 p2 p3, .slice p4 p5 p6, .int .u64 (a.turns : Int)] : List Value).toArray 75)).lt fun he => owns_ne_holds HRO.out HA.out.box (by decide) he.symm)
    have H74 := Lib.hid h74
    have HOX := Lib.hid hown
    have HGW := Lib.hid hgrow
    have HBK := Lib.hid hblk
    clear hown hgrow hblk h74 g7 HRG
    gi_wp2_with (refine wpListIn_store1 rfl 28 _ _ rfl (w.heap.size + 1) 0 (.slice av4 (k + 1) cv4) rfl rfl H74.out (Nat.le_of_ble_eq_true rfl) sz_Moves rfl rfl ?_)
    refine Named.mk (fun WZ hWZ => ?_)
    obtain ⟨r1, r2⟩ := HA.out.app (by rw [HLO.out]; exact HRO.out) HFO.out HG.out (by rw [HLO.out]; exact HOX.out) HGW.out HBK.out hWZ
    have HTZ := Lib.hid r2
    have HBZ : Hid (Below w.heap.size W WZ) := below_two HA.out.below r1.below r2.keeps.size
    have HRZ : Hid (ChL w.heap.size w9.heap.size (w.heap.size + 1) w ms (k + 1) WZ) := by
      refine ⟨.slice av4 (k + 1) cv4, ?_, hj⟩
      rw [List.take_add_one, HZA.out]
      exact r1
    clear hWZ r1 r2 HOX HGW HBK H74
    gi_wp2
    refine ⟨HTZ.out.keeps, ⟨HBZ.out, HTZ.out.safe⟩, ?_⟩
    have h3 := HRZ.out
    rw [← HLE.out] at h3
    exact h3
  case stop => exact fun D c pre W hD _ h => h.elim
  case done =>
    rintro D xs W hD hlen ⟨vo, hA, hjl⟩ hK
    subst hT
    rw [hlen, List.take_length] at hA
    have g7 := hA.box.cell 0
    simp only [List.getElem?_cons_zero] at g7
    have HMV := Lib.hid (hA.movesFrom hbl)
    have HBW := Lib.hid hA.below
    have HKD := Lib.hid hK
    have HP : Hid (∀ w', Fr (fun q => q = D) W w' → MvPost ms w (.returned vo) w') := fun w' hf =>
      ⟨hA.below.trans (hf.to_below hA.below.size fun q hq e => by omega), vo, rfl, (hA.movesFrom hbl).keptF hf fun q hq => by rw [hq]; exact ⟨_, hK, rfl⟩⟩
    clear hA hjl hK hlen
    gi_wp2
    exact leaves_marks (by simp) [D] W (by simp) (fun E hE => by rw [List.mem_singleton] at hE; rw [hE]; exact HKD.out) fun w' hf => ⟨vo, results_tmp4m _ _, HP.out w' (hf.mono fun q _ hq => by simpa using hq)⟩
end Go.Proofs.Ytpednhcfkjjcpaa.G
end
