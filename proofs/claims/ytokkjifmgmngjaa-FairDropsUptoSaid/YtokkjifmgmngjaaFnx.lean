/- The walk of copies.Next and its iterator: a range over a function within an iterator. -/
import Derived.Test.YtokkjifmgmngjaaFab
import Derived.Test.YtokkjifmgmngjaaFcl
import Derived.Sort.CutIn
namespace Go.Proofs.Ytokkjifmgmngjaa.G
open Go.RowKit Go.Maps
set_option linter.unusedVariables false
set_option linter.unusedSimpArgs false
attribute [local go_sem] Oper.semAt_some run_makeMap

theorem field_sight3 (p : Nat) (u1 u2 u3 : Bool) (w : World) : (Instr.field 41 (.agg #[.int .u64 (p : Int), .bool u1, .bool u2, .bool u3]) 3).run Try.prog w = .ok (.bool u3) w := by kernel_rfl
/-- Two worlds that agree up to a block. -/
structure Agree (c : Nat) (A C : World) : Prop where
  os : C.os = A.os
  tape : C.tape = A.tape
  output : C.output = A.output
  la : c ≤ A.heap.size
  lc : c ≤ C.heap.size
  block : ∀ k, k < c → C.heap[k]? = A.heap[k]?
theorem Agree.trans {c : Nat} {A B C : World} (h : Agree c A B) (k : Agree c B C) : Agree c A C := ⟨k.os.trans h.os, k.tape.trans h.tape, k.output.trans h.output, h.la, k.lc, fun i hi => (k.block i hi).trans (h.block i hi)⟩
theorem Agree.of_below {c : Nat} {A C : World} (h : Below A.heap.size A C) (hc : c ≤ A.heap.size) : Agree c A C := ⟨h.os, h.tape, h.output, hc, Nat.le_trans hc h.size, fun k hk => h.block k (by omega)⟩
theorem Agree.of_fr {c : Nat} {F : Nat → Prop} {A C : World} (h : Fr F A C) (hc : c ≤ A.heap.size) (hF : ∀ k, F k → c ≤ k) : Agree c A C := ⟨h.os, h.tape, h.output, hc, Nat.le_trans hc h.size, fun k hk => h.block k (by omega) fun hk2 => by have := hF k hk2; omega⟩
/-- What holds whatever lies from a block on. -/
def Firm (c : Nat) (X : World → Prop) (A : World) : Prop := c ≤ A.heap.size ∧ ∀ C, Agree c A C → X C
theorem Firm.start {B : Nat} {X : World → Prop} {A : World} (hX : OwnFrom B (fun (_ : Unit) W => X W)) (h : X A) : Firm A.heap.size X A := ⟨Nat.le_refl _, fun C hC => hX () A C none h ⟨hC.os, hC.tape, hC.output, hC.lc, fun k hk _ => hC.block k hk⟩ (fun r e => by cases e)⟩
theorem Firm.agree {c : Nat} {X : World → Prop} {A C : World} (h : Firm c X A) (hC : Agree c A C) : Firm c X C := ⟨hC.lc, fun E hE => h.2 E (hC.trans hE)⟩
theorem Firm.out {c : Nat} {X : World → Prop} {A : World} (h : Firm c X A) : X A := h.2 A ⟨rfl, rfl, rfl, h.1, h.1, fun _ _ => rfl⟩
theorem Firm.own {B c : Nat} {X : World → Prop} (hX : OwnFrom B (fun (_ : Unit) W => X W)) : OwnFrom B (fun (_ : Unit) A => Firm c X A) := fun _ A A' row hs hg hr => by
  refine ⟨Nat.le_trans hs.1 hg.size, fun C' hC => ?_⟩
  cases row with
  | none =>
    exact hs.2 C' ⟨hC.os.trans hg.os, hC.tape.trans hg.tape, hC.output.trans hg.output, hs.1, hC.lc, fun k hk => (hC.block k hk).trans (hg.block k (Nat.lt_of_lt_of_le hk hs.1) (by intro e; cases e))⟩
  | some r =>
    obtain ⟨hB, o, ho, hc⟩ := hr r rfl
    by_cases hrc : r < c
    · have h1 : X (C'.putObj r o) := hs.2 _ ⟨hC.os.trans hg.os, hC.tape.trans hg.tape, hC.output.trans hg.output, hs.1, by simpa using hC.lc, fun k hk => by
        by_cases e : k = r
        · subst e
          rw [World.putObj_heap_same (Nat.lt_of_lt_of_le hrc hC.lc), ho]
        · rw [World.putObj_heap_other e, hC.block k hk]
          exact hg.block k (Nat.lt_of_lt_of_le hk hs.1) fun e2 => e (Option.some.inj e2)⟩
      refine hX () _ C' (some r) h1 ⟨rfl, rfl, rfl, by simp, fun k hk hne => (World.putObj_heap_other (fun e => hne (by rw [e]))).symm⟩ fun r' e => ?_
      injection e with e
      subst e
      exact ⟨hB, o, World.putObj_heap_same (Nat.lt_of_lt_of_le hrc hC.lc), hc⟩
    · exact hs.2 C' ⟨hC.os.trans hg.os, hC.tape.trans hg.tape, hC.output.trans hg.output, hs.1, hC.lc, fun k hk => (hC.block k hk).trans (hg.block k (Nat.lt_of_lt_of_le hk hs.1) fun e => by injection e with e; omega)⟩
/-- What the iterator's range keeps. -/
structure CnS (n₀ l b1 b3 b4 b7 : Nat) (tid : TypeId) (dyn : Value) (K k : Nat) (g : Bool) (W6 W : World) : Prop where
  below : Below n₀ W6 W
  hc : Holds W b1 64 [.iface tid dyn, .int .i64 (K : Int)]
  hy : Holds W b3 105 [.func (.yield l) #[] #[]]
  hk : Holds W b4 3 [.int .i64 (k : Int)]
  hg : Holds W b7 4 [.bool g]
section
variable {n₀ l b1 b3 b4 b7 : Nat} {tid : TypeId} {dyn : Value} {K k : Nat} {g : Bool} {W6 W W' : World}
theorem CnS.fresh (h : CnS n₀ l b1 b3 b4 b7 tid dyn K k g W6 W) (hb : Below W.heap.size W W') (hz : n₀ ≤ W6.heap.size) : CnS n₀ l b1 b3 b4 b7 tid dyn K k g W6 W' := ⟨h.below.trans (hb.mono (Nat.le_trans hz h.below.size)), h.hc.belowAll hb, h.hy.belowAll hb, h.hk.belowAll hb, h.hg.belowAll hb⟩
theorem CnS.kept {lo : Nat} {row : Option Nat} (h : CnS n₀ l b1 b3 b4 b7 tid dyn K k g W6 W) (hl : n₀ ≤ lo) (hz : n₀ ≤ W6.heap.size) (hg : W.grownBy W' row) (hr : ∀ r, row = some r → lo ≤ r ∧ ∃ o : Obj, W.heap[r]? = some o ∧ o.isCells = false) : CnS n₀ l b1 b3 b4 b7 tid dyn K k g W6 W' :=
  ⟨h.below.grown hg (Nat.le_trans hz h.below.size) fun k hk => by have := (hr k hk).1; omega, h.hc.kept_row hg fun r e => (hr r e).2, h.hy.kept_row hg fun r e => (hr r e).2, h.hk.kept_row hg fun r e => (hr r e).2, h.hg.kept_row hg fun r e => (hr r e).2⟩
theorem CnS.kpt {lo : Nat} (h : CnS n₀ l b1 b3 b4 b7 tid dyn K k g W6 W) (hk : KpT n₀ lo W W') (h4 : lo ≤ b4) (h7 : lo ≤ b7) : CnS n₀ l b1 b3 b4 b7 tid dyn K k g W6 W' :=
  ⟨h.below.trans hk.below, hk.safe _ _ _ (.inl (by decide)) h.hc, hk.safe _ _ _ (.inl (by decide)) h.hy, hk.safe _ _ _ (.inr ⟨.inl rfl, h4⟩) h.hk, hk.safe _ _ _ (.inr ⟨.inr rfl, h7⟩) h.hg⟩
theorem CnS.move {b8 : Nat} {cs : List Value} (h : CnS n₀ l b1 b3 b4 b7 tid dyn K k g W6 W) (h8 : Holds W b8 44 cs) (hb : n₀ ≤ b8) (hz : n₀ ≤ W6.heap.size) (hf : Fr (fun q => q = b8) W W') : CnS n₀ l b1 b3 b4 b7 tid dyn K k g W6 W' :=
  ⟨h.below.trans (hf.to_below (Nat.le_trans hz h.below.size) fun q hq e => by have e : q = b8 := e; omega), hf.holds h.hc (h.hc.ne_of_type h8 (by decide)), hf.holds h.hy (h.hy.ne_of_type h8 (by decide)), hf.holds h.hk (h.hk.ne_of_type h8 (by decide)), hf.holds h.hg (h.hg.ne_of_type h8 (by decide))⟩
end
theorem RowX.keptG {lo : Nat} {w w' : World} {v : Value} {l : List Int} {row : Option Nat} (h : RowX lo w v l) (hg : w.grownBy w' row) (hr : ∀ r, row = some r → ∃ o : Obj, w.heap[r]? = some o ∧ o.isCells = false) : RowX lo w' v l := ⟨h.1.imp id fun h => owns_kept h hg hr, h.2.kept hg hr⟩
def CNextPost (tid : TypeId) (dyn : Value) (K : Nat) (s : ByteArray) (w : World) (e : Ending) (w' : World) : Prop := Below w.heap.size w w' ∧ ∃ b0 b1, e = .returned (.func (.func 60) #[] #[.pointer (some ⟨b0, 0, none⟩), .pointer (some ⟨b1, 0, none⟩)]) ∧ Holds w' b0 64 [.iface tid dyn, .int .i64 (K : Int)] ∧ Holds w' b1 9 [.string s]
theorem cnextFn (w : World) {tid : TypeId} {dyn : Value} {K : Nat} (s : ByteArray) : Calls Try.prog 57 #[.agg #[.iface tid dyn, .int .i64 (K : Int)], .string s] w (CNextPost tid dyn K s w) := by
  go_enter Try.func57, Try.ntmps57
  go_wp2
  go_ret
  have h := Holds.new (w.alloc (.cells #[.iface tid dyn, .int .i64 (K : Int)] 64)) 9 #[.string s]
  simp only [World.size_alloc] at h
  exact ⟨((Below.refl _ w).alloc (Nat.le_refl _) _).alloc (by simp) _, _, _, rfl, (Holds.new w 64 #[.iface tid dyn, .int .i64 (K : Int)]).alloc _, h⟩
theorem results_none60 (tmps : Array Value) (w : World) : ∃ v, (results Try.f60 tmps).run Try.prog w = .ok v w := ⟨_, results_none rfl _ _ _⟩
/-- What the round's code begins with. -/
def CnA (B n₀ : Nat) (Wst : World) (J : List Value → World → Prop) (ms : List PMove) (T0 : Array Value) (pre : List Value) (y : Value) (a' : Act) (W : World) : Prop :=
  ∃ (W0 : World) (ys : List Value) (b8 c : Nat) (hj : pre.length < ms.length) (vr vw : Value), a' = { tmps := (T0.setIfInBounds 44 y).setIfInBounds 8 (.pointer (some ⟨b8, 0, none⟩)), defers := [] } ∧ ys.length = pre.length ∧ J ys W0 ∧ Firm c (fun A => J ys A ∧ Tol Wst.heap.size W0 A) W ∧ c ≤ b8 ∧ n₀ ≤ b8 ∧ W0.heap.size ≤ W.heap.size ∧
    Holds W b8 44 (mvC ms[pre.length] vr vw) ∧ RowX W0.heap.size W vr ms[pre.length].reads ∧ RowX W0.heap.size W vw ms[pre.length].writes
theorem jt_own {B : Nat} {Wst W0 : World} {J : List Value → World → Prop} (hJ : OwnFrom Wst.heap.size J) (hB : Wst.heap.size ≤ B) (ys : List Value) : OwnFrom B (fun (_ : Unit) A => J ys A ∧ Tol Wst.heap.size W0 A) := fun _ A C row hs hg hr =>
  ⟨hJ ys A C row hs.1 hg fun r e => ⟨Nat.le_trans hB (hr r e).1, (hr r e).2⟩, Tol.own Wst.heap.size W0 () A C row hs.2 hg fun r e => ⟨Nat.le_trans hB (hr r e).1, (hr r e).2⟩⟩
theorem CnA.kept {B n₀ : Nat} {Wst : World} {J : List Value → World → Prop} {ms : List PMove} {T0 : Array Value} {pre : List Value} {y : Value} {a' : Act} {V V' : World} {row : Option Nat} (hJ : OwnFrom Wst.heap.size J) (hB : Wst.heap.size ≤ B) (h : CnA B n₀ Wst J ms T0 pre y a' V) (hg : V.grownBy V' row) (hr : ∀ r, row = some r → B ≤ r ∧ ∃ o : Obj, V.heap[r]? = some o ∧ o.isCells = false) : CnA B n₀ Wst J ms T0 pre y a' V' := by
  obtain ⟨W0, ys, b8, c, hj, vr, vw, h1, h2, h3, h4, h5, h6, h6', h7, h8, h9⟩ := h
  exact ⟨W0, ys, b8, c, hj, vr, vw, h1, h2, h3, Firm.own (jt_own hJ hB ys) () V V' row h4 hg hr, h5, h6, Nat.le_trans h6' hg.size, h7.kept_row hg fun r e => (hr r e).2, RowX.keptG h8 hg fun r e => (hr r e).2, RowX.keptG h9 hg fun r e => (hr r e).2⟩
theorem KpT.high {n₀ lo lo' : Nat} {A B : World} (h : KpT n₀ lo A B) (hl : lo ≤ lo') : KpT n₀ lo' A B := ⟨h.below, fun k t cs hs => h.safe k t cs (hs.imp id fun q => ⟨q.1, Nat.le_trans hl q.2⟩)⟩
theorem tells_map {l L : List PMove} {f : PMove → PMove} (hL : L = l.map f) {ys : List Value} {j : Nat} (hy : ys.length = j) (hj : j < l.length) {m : PMove} (hm : l[j] = m) {vr vw : Value} {W0 W : World} (h2 : RowX W0.heap.size W vr (f m).reads) (h3 : RowX W0.heap.size W vw (f m).writes) : Tells L ys (.agg (mvC (f m) vr vw).toArray) W0 W ∧ ys.length < L.length := by
  subst hL hy hm
  exact ⟨⟨by simpa using hj, vr, vw, by simp, by simpa using h2, by simpa using h3⟩, by simpa using hj⟩
theorem undef_bool (b : Bool) : (undef = Value.bool b) = False := eq_false fun h => by cases h
theorem sz_Ints : (Try.prog.info? 25).map (·.size) = some 1 := by kernel_rfl
/-- What lies in memory behind the round's test. -/
def CnM (n₀ l b1 b3 b4 b7 b8 c lo : Nat) (tid : TypeId) (dyn : Value) (K k : Nat) (g : Bool) (w6 : World) (X : World → Prop) (m : PMove) (W wx : World) : Prop := ∃ vr vw, Holds wx b8 44 (mvC m vr vw) ∧ RowX lo wx vr m.reads ∧ RowX lo wx vw m.writes ∧ CnS n₀ l b1 b3 b4 b7 tid dyn K k g w6 wx ∧ Firm c X wx ∧ KeepsFrom w6.heap.size W wx ∧ KpT n₀ w6.heap.size W wx ∧ W.heap.size ≤ wx.heap.size
theorem CnM.start {n₀ l b1 b3 b4 b7 b8 c lo : Nat} {tid : TypeId} {dyn : Value} {K k : Nat} {g : Bool} {w6 W : World} {X : World → Prop} {m : PMove} {vr vw : Value} (h1 : Holds W b8 44 (mvC m vr vw)) (h2 : RowX lo W vr m.reads) (h3 : RowX lo W vw m.writes) (h4 : CnS n₀ l b1 b3 b4 b7 tid dyn K k g w6 W) (h5 : Firm c X W) (hn : n₀ ≤ W.heap.size) : CnM n₀ l b1 b3 b4 b7 b8 c lo tid dyn K k g w6 X m W W := ⟨vr, vw, h1, h2, h3, h4, h5, (Turns.below (lo := w6.heap.size) (Below.refl _ W)).keeps, kpt_fresh (Below.refl _ W) hn, Nat.le_refl _⟩
theorem CnM.next {n₀ l b1 b3 b4 b7 b8 c lo : Nat} {tid : TypeId} {dyn : Value} {K k : Nat} {g : Bool} {w6 W wx wy : World} {X : World → Prop} {m m' : PMove} {vr' vw' : Value} (h : CnM n₀ l b1 b3 b4 b7 b8 c lo tid dyn K k g w6 X m W wx) (hf : Fr (fun q => q = b8) wx wy) (h1 : Holds wy b8 44 (mvC m' vr' vw')) (h2 : RowX lo wy vr' m'.reads) (h3 : RowX lo wy vw' m'.writes) (hc : c ≤ b8) (hn : n₀ ≤ b8) (hz : n₀ ≤ w6.heap.size) (hcx : c ≤ wx.heap.size) : CnM n₀ l b1 b3 b4 b7 b8 c lo tid dyn K k g w6 X m' W wy := by
  obtain ⟨vr, vw, g1, g2, g3, g4, g5, g6, g7, g8⟩ := h
  refine ⟨vr', vw', h1, h2, h3, g4.move g1 hn hz hf, g5.agree (Agree.of_fr hf hcx fun q e => by rw [e]; exact hc), g6.trans (KeepsFrom.of_fr hf fun q e => by rw [e]; exact ⟨_, _, g1⟩), g7.trans ⟨hf.to_below (Nat.le_trans hz g4.below.size) fun q hq e => by have e : q = b8 := e; omega, fun j t cs hs hh => hf.holds hh (hh.ne_of_type g1 ?_)⟩, Nat.le_trans g8 hf.size⟩
  rintro rfl
  rcases hs with hs | ⟨hs, _⟩
  · exact absurd hs (by decide)
  · rcases hs with hs | hs <;> exact absurd hs (by decide)
attribute [local go_sem] undef_bool
set_option maxRecDepth 100000 in
set_option maxHeartbeats 4000000 in
theorem cnext1 (n n₀ : Nat) {I : Ifc} {S : Sys} {wb w : World} {K : Nat} {s : ByteArray} {b1 b2 : Nat} (hS : SysOk I S wb) (hwb : wb.heap.size ≤ n₀) (hbw : Below wb.heap.size wb w) (hn₀ : n₀ ≤ w.heap.size) (hs : s.size ≤ 1048576) (htiny : ∀ s, s.size ≤ 1048576 → ∀ m ∈ S.next s, m.dst.size ≤ 1000000) (hK : K ≤ 16)
    (h1 : Holds w b1 64 [.iface I.tid I.dyn, .int .i64 (K : Int)]) (h2 : Holds w b2 9 [.string s]) :
    SeqTells Fence.wide n Try.prog 60 #[.pointer (some ⟨b1, 0, none⟩), .pointer (some ⟨b2, 0, none⟩)] (fun x => #[x]) (KpT n₀ w.heap.size) (Tells (cnext S K s)) (fun ys => ys.length = (cnext S K s).length) (fun _ => True) (cnext S K s).length w := fun l J Jx Wst hW hJ hJx hY hJ0 => by
  have m1 := hS.mL
  have m2 := hS.eL
  have m3 := hS.mN
  have m4 := hS.eN
  have HSS := Lib.hid hS
  have HYY := Lib.hid hY
  have HJ := Lib.hid hJ
  have HJX := Lib.hid hJx
  have HJ0 := Lib.hid hJ0
  have HWS := Lib.hid hW.size
  have HBW : Hid (Below wb.heap.size wb Wst) := hbw.trans (hW.mono hbw.size)
  have HTI := Lib.hid htiny
  obtain ⟨w1, hw1⟩ : ∃ W, W = Wst.alloc (.cells #[.func (.yield l) #[] #[]] 105) := ⟨_, rfl⟩
  have hb1 : Below Wst.heap.size Wst w1 := by rw [hw1]; exact (Below.refl _ _).alloc (Nat.le_refl _) _
  have h3 : Holds w1 Wst.heap.size 105 [.func (.yield l) #[] #[]] := by rw [hw1]; exact Holds.new Wst 105 #[.func (.yield l) #[] #[]]
  have hc1 := (h1.belowAll hW).belowAll hb1
  have hs1 := (h2.belowAll hW).belowAll hb1
  have e2 := hs1.cell 0
  simp only [List.getElem?_cons_zero] at e2
  have HRG := Lib.hid (hc1.range (i := 0) (n := 2) (xs := [.iface I.tid I.dyn, .int .i64 (K : Int)]) rfl)
  have HC1 := Lib.hid hc1
  have H3 := Lib.hid h3
  have HB1 := Lib.hid hb1
  have HCS := Lib.hid (cstateFn (w := w1) (tid := I.tid) (dyn := I.dyn) (K := K) hs)
  have HS := Lib.hid hs
  clear hS hY hJ hJx hJ0 hW hbw hb1 h3 hc1 hs1 h1 h2 hs htiny
  refine callsIn_wide.2 ((callsIn_wide (n := 5)).1 ?_)
  refine callsIn_of_wp_marks Try.func60 rfl trivial ?_ rfl
  simp only [Try.ntmps60, List.size_toArray, List.length_cons, List.length_nil, Nat.reduceAdd, Nat.reduceSub, Array.replicate_succ, Array.replicate_zero, List.push_toArray, List.append_toArray, List.nil_append, List.cons_append]
  refine wpIn_wide.2 ?_
  go_upto_region 1 with (fail)
  rw [← hw1]
  clear hw1
  obtain ⟨b3, hb3⟩ : ∃ b, Wst.heap.size = b := ⟨_, rfl⟩
  have HB3 : Hid (Wst.heap.size = b3) := hb3
  rw [hb3] at H3 ⊢
  clear hb3
  go_wp2_with (refine wpList_load_mid rfl 64 _ rfl b1 0 rfl [.iface I.tid I.dyn, .int .i64 (K : Int)] _ HRG.out Try.underlying64 rfl sz_copies ?_)
  refine HCS.out.mono ?_
  rintro e w2 ⟨hb2, k, x, b, rfl, hcs⟩
  obtain ⟨w3, hw3⟩ : ∃ W, W = w2.alloc (.cells #[.int .i64 k] 3) := ⟨_, rfl⟩
  have hb3 : Below w2.heap.size w2 w3 := by rw [hw3]; exact (Below.refl _ _).alloc (Nat.le_refl _) _
  have h4 : Holds w3 w2.heap.size 3 [.int .i64 k] := by rw [hw3]; exact Holds.new w2 3 #[.int .i64 k]
  have hb13 : Below w1.heap.size w1 w3 := hb2.trans (hb3.mono hb2.size)
  have HB13 := Lib.hid hb13
  have HC3 := Lib.hid (HC1.out.belowAll hb13)
  have H33 := Lib.hid (H3.out.belowAll hb13)
  have HL4 : Hid (Wst.heap.size ≤ w2.heap.size) := Nat.le_trans HB1.out.size hb2.size
  have H4 := Lib.hid h4
  clear hb2 hb3 h4 hb13 HC1 H3 HCS HRG e2
  rcases hcs with ⟨rfl, hcs⟩ | ⟨rfl, k, rfl, hcs⟩
  · have HN : Hid (cnext S K s = []) := by show _ = _; unfold cnext; rw [hcs]
    have hj3 : J [] w3 := abide_below HJ.out (HB1.out.trans (HB13.out.mono HB1.out.size)) HJ0.out
    have HJ3 := Lib.hid hj3
    clear hcs hj3
    go_wp2
    rw [← hw3]
    exact ⟨_, results_none rfl _ _ _, ⟨_, rfl⟩, .inl ⟨[], by rw [HN.out]; rfl, HJ3.out⟩⟩
  · have hsz := cstate_size hcs
    obtain ⟨ms, hms⟩ : ∃ l, S.next x = l := ⟨_, rfl⟩
    obtain ⟨g, hg⟩ : ∃ g, cgoes S k x = g := ⟨_, rfl⟩
    have HN : Hid (cnext S K s = ms.map (cmove K k g)) := by show _ = _; unfold cnext; rw [hcs]; simp only; rw [hms, hg]
    have HG : Hid (((decide (k = 0) && (S.look x).acc) || (decide (0 < k) && !ableP S x ((k : Int) - 1))) = g) := hg
    have HMS := Lib.hid hms
    have HXS := Lib.hid (Nat.le_trans hsz.1 HS.out)
    have HKK := Lib.hid hsz.2
    have hbw3 : Below wb.heap.size wb w3 := HBW.out.trans ((HB1.out.trans (HB13.out.mono HB1.out.size)).mono HBW.out.size)
    have HBW3 := Lib.hid hbw3
    have HLK := Lib.hid (HSS.out.look w3 x hbw3 HXS.out)
    have HAB : Hid (∀ p : Int, Calls Try.prog 61 #[.agg #[.iface I.tid I.dyn, .int .i64 (K : Int)], .string x, .int .i64 p] w3 (BoolB (ableP S x p) w3)) := fun p => ableFn (HSS.out.at hbw3) HXS.out
    have hk16 : k ≤ 16 := by omega
    have HRC := Lib.hid (HC3.out.range (i := 0) (n := 2) (xs := [.iface I.tid I.dyn, .int .i64 (K : Int)]) rfl)
    have c0 := HC3.out.cell 0
    have c1 := HC3.out.cell 1
    have c4 := H4.out.cell 0
    simp only [List.getElem?_cons_zero, List.getElem?_cons_succ] at c0 c1 c4
    clear hcs hsz hms hg hbw3
    go_upto_region 3 with (fail)
    rw [← hw3]
    obtain ⟨b4, hb4⟩ : ∃ b, w2.heap.size = b := ⟨_, rfl⟩
    rw [hb4] at H4 HL4 c4 ⊢
    clear hw3 hb4
    go_cut [7] from 17 (fun pv wx => ∃ b7 : Nat, pv = .pointer (some ⟨b7, 0, none⟩) ∧ Hid (Below w3.heap.size w3 wx) ∧ Hid (Holds wx b7 4 [.bool g]) ∧ w3.heap.size ≤ b7)
    case first =>
      by_cases hk0 : k = 0
      · subst hk0
        have dk : (((0 : Nat) : Int) == 0) = true := rfl
        obtain ⟨y, hy⟩ : ∃ y, S.look x = y := ⟨_, rfl⟩
        rw [hy] at HLK HG
        obtain ⟨ya, yp, y1, y2, y3⟩ := y
        have hgy : y3 = g := by have := HG.out; simpa using this
        subst hgy
        clear hy
        have HL2 : Hid (Calls Try.prog I.fL #[I.dyn, .string x] w3 (fun e w'' => Below w3.heap.size w3 w'' ∧ e = .returned (.agg #[.int .u64 (yp : Int), .bool y1, .bool y2, .bool y3]))) := HLK.out
        have hfs := field_sight3
        go_wp2_with (fail)
        refine HL2.out.mono ?_
        rintro e wa ⟨hba, rfl⟩
        have c4a := (H4.out.belowAll hba).cell 0
        simp only [List.getElem?_cons_zero] at c4a
        have HBA := Lib.hid hba
        clear hba HLK HL2
        cases y3 with
        | true =>
          go_wp2
          go_meet
          case rel => exact ⟨wa.heap.size, rfl, HBA.out.trans ((Below.refl _ _).alloc HBA.out.size _), Holds.new wa 4 #[.bool true], HBA.out.size⟩
        | false =>
          go_wp2
          go_meet
          case rel => exact ⟨wa.heap.size, rfl, HBA.out.trans ((Below.refl _ _).alloc HBA.out.size _), Holds.new wa 4 #[.bool false], HBA.out.size⟩
      · have dk : ((k : Int) == 0) = false := by rw [Bool.eq_false_iff]; intro h; have h4 := eq_of_beq h; omega
        have dk2 : (0 : Int) < (k : Int) := by omega
        have hwk : IntKind.i64.wrap ((k : Int) - 1) = (k : Int) - 1 := by rw [IntKind.wrap_i64]; omega
        obtain ⟨ab, hab⟩ : ∃ b, ableP S x ((k : Int) - 1) = b := ⟨_, rfl⟩
        have hgy : (!ab) = g := by
          have := HG.out
          rw [hab, decide_eq_false hk0, decide_eq_true (show 0 < k by omega)] at this
          simpa using this
        subst hgy
        have HA1 := Lib.hid (HAB.out ((k : Int) - 1))
        rw [hab] at HA1
        clear hab hk0
        go_wp2_with (fail)
        refine HA1.out.mono ?_
        rintro e wa ⟨rfl, hba⟩
        have HBA := Lib.hid hba
        clear hba HA1
        go_wp2
        go_meet
        case rel => exact ⟨wa.heap.size, rfl, HBA.out.trans ((Below.refl _ _).alloc HBA.out.size _), Holds.new wa 4 #[.bool !ab], HBA.out.size⟩
    case rest =>
      obtain ⟨b7, hpv, HB7, H7, hl7⟩ := hcut
      subst hpv
      have HCc := Lib.hid (HC3.out.belowAll HB7.out)
      have H3c := Lib.hid (H33.out.belowAll HB7.out)
      have H4c := Lib.hid (H4.out.belowAll HB7.out)
      have c0 := HCc.out.cell 0
      have c1 := HCc.out.cell 1
      simp only [List.getElem?_cons_zero, List.getElem?_cons_succ] at c0 c1
      have hbwc : Below wb.heap.size wb wc := HBW3.out.trans (HB7.out.mono HBW3.out.size)
      have HNX := Lib.hid (HSS.out.next wc x hbwc HXS.out)
      rw [HMS.out] at HNX
      have HJc : Hid (J [] wc) := abide_below HJ.out ((HB1.out.trans (HB13.out.mono HB1.out.size)).trans (HB7.out.mono (Nat.le_trans HB1.out.size HB13.out.size))) HJ0.out
      have HSC : Hid (Wst.heap.size ≤ wc.heap.size ∧ w.heap.size ≤ Wst.heap.size ∧ w.heap.size ≤ b4 ∧ w.heap.size ≤ b7) := by
        have q1 := HB1.out.size
        have q2 := HB13.out.size
        have q3 := HB7.out.size
        have q4 := HWS.out
        have q5 := HL4.out
        show _ ∧ _
        omega
      clear hbwc HLK HAB HC3 H33 H4 HRC HG HB1 HB13 HJ0 HB7 hl7 HL4
      go_wp2_with (fail)
      refine HNX.out.mono ?_
      rintro e w6 ⟨hb6, f, rfl, lb, rfl, hit⟩
      have HC6 := Lib.hid (HCc.out.belowAll hb6)
      have H36 := Lib.hid (H3c.out.belowAll hb6)
      have H46 := Lib.hid (H4c.out.belowAll hb6)
      have H76 := Lib.hid (H7.out.belowAll hb6)
      have HJ6 := Lib.hid (abide_below HJ.out hb6 HJc.out)
      have hs6 : Wst.heap.size ≤ w6.heap.size ∧ n₀ ≤ w6.heap.size := by
        have q1 := hb6.size
        have q2 := HSC.out
        omega
      have HS6 := Lib.hid hs6
      have hseq := hit 4 n₀ w6 hwb hs6.2 (Below.refl _ _)
      have HA0 : Hid (CnS n₀ l b1 b3 b4 b7 I.tid I.dyn K k g w6 w6) := ⟨Below.refl _ _, HC6.out, H36.out, H46.out, H76.out⟩
      clear hit hb6 HCc H3c H4c H7 c0 c1 HJc HC6 H36 H46 H76 HNX
      go_wp2
      refine (wpIn_wide (n := 5)).1 ?_
      refine wpIn_at fun T0 hT => ?_
      refine wpIn_rangeFunc_tells (α := Value) (encs := fun y => #[y]) (Kp := KpT n₀ w6.heap.size) (S := fun ys => ys.length = ms.length) (Sp := fun _ => True) (N := ms.length) (w0 := w6) (G := Tells ms) rfl (by omega) (gf := I.fG) (lb := lb) (by subst hT; rfl) trivial HSS.out.enter KpT.trans (KpT.put hs6.2) (Below.refl _ _) (fun _ => rfl)
        (fun pre W => pre.length ≤ ms.length ∧ (∃ ys, ys.length = pre.length ∧ J ys W) ∧ CnS n₀ l b1 b3 b4 b7 I.tid I.dyn K k g w6 W) hseq (fun c pre W => c = .ret ∧ ∃ ys, Jx ys W) ?hI ?hIx ⟨Nat.zero_le _, ⟨[], rfl, HJ6.out⟩, HA0.out⟩
        (fun pre y a' W => CnA w6.heap.size n₀ Wst J ms T0 pre y a' W) ?hAx ?assign ?body ?done ?stop
      case hI => exact fun pre V V' row hs hg hr => ⟨hs.1, hs.2.1.imp fun ys h => ⟨h.1, HJ.out ys V V' row h.2 hg fun r e => ⟨Nat.le_trans hs6.1 (hr r e).1, (hr r e).2⟩⟩, hs.2.2.kept hs6.2 hs6.2 hg hr⟩
      case hIx => exact fun c pre V V' row hs hg hr => ⟨hs.1, hs.2.imp fun ys h => HJX.out ys V V' row h hg fun r e => ⟨Nat.le_trans hs6.1 (hr r e).1, (hr r e).2⟩⟩
      case hAx => exact fun pre y a' s V V' row hs hg hr => CnA.kept HJ.out hs6.1 hs hg hr
      case assign =>
        intro l2 pre y W0 W Kx hi0 hb01 hi hG hKx
        obtain ⟨hj, vr, vw, rfl, hr, hw⟩ := hG
        subst hT
        obtain ⟨ys, hys, hj0⟩ := hi0.2.1
        have HZ14 := Lib.hid (Holds.new W 44 #[.int .i64 0, .int .i64 0, .int .i64 0, .int .i64 0, .string ⟨#[]⟩, .int .i64 0, .slice none 0 0, .slice none 0 0, .int .u64 0])
        have hone : (mvC ms[pre.length] vr vw).all (·.oneCell') = true := by
          have q1 := hr.2.cell1
          have q2 := hw.2.cell1
          simp [mvC, q1, q2]
          simp [Value.oneCell']
        gi_wp2_with (refine wpListIn_storeB rfl 44 _ _ rfl W.heap.size 0 (mvC ms[pre.length] vr vw) rfl rfl HZ14.out (Nat.le_of_ble_eq_true rfl) sz_Move hone ?_)
        refine Named.mk (fun W' hW' => ?_)
        have hb' : Below W.heap.size W W' := by rw [hW']; exact Below.far (Below.refl _ _) (Nat.le_refl _) _ _ _
        have h14 : Holds W' W.heap.size 44 (mvC ms[pre.length] vr vw) := HZ14.out.stored hW' (Nat.le_of_ble_eq_true rfl)
        have hjt : J ys W ∧ Tol Wst.heap.size W0 W := ⟨hb01 (fun A => J ys A) (fun _ A C row hs hg hr => HJ.out ys A C row hs hg fun r e => ⟨Nat.le_trans hs6.1 (hr r e).1, (hr r e).2⟩) hj0, hb01.low hs6.1⟩
        have hfirm : Firm W.heap.size (fun A => J ys A ∧ Tol Wst.heap.size W0 A) W' := (Firm.start (B := w6.heap.size) (jt_own HJ.out hs6.1 ys) hjt).agree (Agree.of_below hb' (Nat.le_refl _))
        have hw0 : W0.heap.size ≤ W.heap.size := hb01 (fun A => W0.heap.size ≤ A.heap.size) (fun _ A C row hs hg hr => Nat.le_trans hs hg.size) (Nat.le_refl _)
        have hnw : n₀ ≤ W.heap.size := Nat.le_trans hs6.2 hi.2.2.below.size
        have hi2 := hi.2.2.fresh hb' hs6.2
        have hi3 : ∃ ys, ys.length = pre.length ∧ J ys W' := hi.2.1.imp fun ys h => ⟨h.1, abide_below HJ.out hb' h.2⟩
        have hkk := (Turns.below (lo := w6.heap.size) hb').keeps
        have hbk : KpT n₀ w6.heap.size W W' := kpt_fresh hb' hnw
        have hr' := hr.below hb'
        have hw' := hw.below hb'
        have hsz' : W0.heap.size ≤ W'.heap.size := Nat.le_trans hw0 hb'.size
        clear hW' HZ14 hr hw
        gi_wp2
        exact hKx _ _ hkk hbk ⟨hi.1, hi3, hi2⟩ ⟨W0, ys, W.heap.size, W.heap.size, hj, vr, vw, rfl, hys, hj0, hfirm, Nat.le_refl _, hnw, hsz', h14, hr', hw'⟩
      case body =>
        rintro l2 pre y a' W hl2 hrec hi hAx hlen
        obtain ⟨W0, ys, b8, c, hj, vr, vw, rfl, hys, hj0, hfirm, hc8, hn8, hsz0, h8, hr, hw⟩ := hAx
        subst hT
        obtain ⟨m, hm⟩ : ∃ m, ms[pre.length] = m := ⟨_, rfl⟩
        rw [hm] at h8 hr hw
        have hmem : m ∈ ms := hm ▸ List.getElem_mem hj
        obtain ⟨X, hX⟩ : ∃ X : World → Prop, X = fun A => J ys A ∧ Tol Wst.heap.size W0 A := ⟨_, rfl⟩
        rw [← hX] at hfirm
        have HX := Lib.hid hX
        have HM := Lib.hid hm
        have HY0 := Lib.hid (show ys.length = pre.length ∧ J ys W0 from ⟨hys, hj0⟩)
        have HRM : Hid (m.reads.length ≤ 2000000 ∧ m.writes.length ≤ 2000000) := HSS.out.small.reads x HXS.out m (by rw [HMS.out]; exact hmem)
        have HDS : Hid (m.dst.size ≤ 1000000) := HTI.out x HXS.out m (by rw [HMS.out]; exact hmem)
        have HC8 : Hid (c ≤ b8 ∧ n₀ ≤ b8 ∧ W0.heap.size ≤ W.heap.size ∧ c ≤ W.heap.size ∧ n₀ ≤ W.heap.size) := ⟨hc8, hn8, hsz0, hfirm.1, Nat.le_trans HS6.out.2 hi.2.2.below.size⟩
        have e5 := h8.cell 5
        have ee5 : W.cell? ⟨b8, 5, none⟩ = some (.int .i64 m.bad) := e5
        have H8 := Lib.hid h8
        have HR := Lib.hid hr
        have HW := Lib.hid hw
        have HI := Lib.hid hi
        have HFI := Lib.hid hfirm
        clear e5 hX hm hys hj0 hmem hc8 hn8 hsz0 h8 hr hw hi hfirm hseq
        gi_upto_if 47 with (fail)
        gi_cut [] from 45 (fun wx => Hid (CnM n₀ l b1 b3 b4 b7 b8 c W0.heap.size I.tid I.dyn K k g w6 X (cmove K k g m) W wx))
        case first =>
          by_cases hb : m.bad = 0
          · have hbe : (m.bad == 0) = true := by simp [hb]
            have HCM : Hid (cmove K k g m = { m with dst := joinS (cnum K k g m) m.dst }) := by show _ = _; unfold cmove; rw [if_pos hb]
            have hk2 : k ≤ 16 := by have := HKK.out; omega
            have q4 := HI.out.2.2.hk.cell 0
            have q7 := HI.out.2.2.hg.cell 0
            simp only [List.getElem?_cons_zero] at q4 q7
            clear hb ee5
            gi_upto_region 8 with (fail)
            gi_cut [59] from 45 (fun pv wx => pv = .bool (g || (decide (0 < k) && mvsP ((k : Int) - 1) m)) ∧ Hid (Below W.heap.size W wx))
            case first =>
              cases g with
              | true =>
                gi_wp2
                refine ⟨trivial, ?_⟩
                gi_wp2
                gi_meet
                case rel => exact ⟨rfl, Below.refl _ _⟩
              | false =>
                by_cases hk0 : 0 < k
                · have dk2 : (0 : Int) < (k : Int) := by omega
                  have hwk : IntKind.i64.wrap ((k : Int) - 1) = (k : Int) - 1 := by rw [IntKind.wrap_i64]; omega
                  have dk3 : decide (0 < k) = true := decide_eq_true hk0
                  have z0 : W.cell? ⟨b8, 0, none⟩ = some (.int .i64 m.proc) := H8.out.cell 0
                  have z1 : W.cell? ⟨b8, 1, none⟩ = some (.int .i64 m.edge) := H8.out.cell 1
                  have z2 : W.cell? ⟨b8, 2, none⟩ = some (.int .i64 m.wth) := H8.out.cell 2
                  have z3 : W.cell? ⟨b8, 3, none⟩ = some (.int .i64 m.wthE) := H8.out.cell 3
                  have z4 : W.cell? ⟨b8, 4, none⟩ = some (.string m.dst) := H8.out.cell 4
                  have z5 : W.cell? ⟨b8, 5, none⟩ = some (.int .i64 m.bad) := H8.out.cell 5
                  have z6 : W.cell? ⟨b8, 6, none⟩ = some (vr) := H8.out.cell 6
                  have z7 : W.cell? ⟨b8, 7, none⟩ = some (vw) := H8.out.cell 7
                  have z8 : W.cell? ⟨b8, 8, none⟩ = some (.int .u64 (m.turns : Int)) := H8.out.cell 8
                  have HMF : Hid (MvF (fun _ => True) W m (mvC m vr vw)) := ⟨vr, vw, rfl, HR.out.2.mono fun _ _ _ => trivial, HW.out.2.mono fun _ _ _ => trivial⟩
                  obtain ⟨z, hz⟩ : ∃ z, mvsP ((k : Int) - 1) m = z := ⟨_, rfl⟩
                  have HMV := movesFn (p := (k : Int) - 1) HMF.out
                  rw [hz] at HMV
                  have HMV2 := Lib.hid HMV
                  have HZ : Hid ((false || (decide (0 < k) && z)) = z) := by show _ = _; rw [dk3]; simp
                  clear dk3
                  have HZZ := Lib.hid hz
                  clear HMV hz hk0
                  gi_wp2_with (fail)
                  refine ⟨trivial, ?_⟩
                  refine (show CallsIn (Fence.wide.inRound l2) 2 _ _ _ _ _ from callsIn_wide.2 HMV2.out).mono ?_
                  rintro e wb2 ⟨rfl, hb2⟩
                  have HB2 := Lib.hid hb2
                  clear hb2 HMV2 HMF z0 z1 z2 z3 z4 z5 z6 z7 z8
                  cases z with
                  | true =>
                    gi_wp2
                    gi_meet
                    case rel => exact ⟨by rw [HZZ.out, HZ.out], HB2⟩
                  | false =>
                    gi_wp2
                    gi_meet
                    case rel => exact ⟨by rw [HZZ.out, HZ.out], HB2⟩
                · have dk2 : ¬ (0 : Int) < (k : Int) := by omega
                  have dk3 : decide (0 < k) = false := decide_eq_false hk0
                  have HZ : Hid ((false || (decide (0 < k) && mvsP ((k : Int) - 1) m)) = false) := by show _ = _; rw [dk3]; simp
                  clear dk3 hk0
                  gi_wp2
                  refine ⟨trivial, ?_⟩
                  gi_wp2
                  gi_meet
                  case rel => exact ⟨by rw [HZ.out], Below.refl _ _⟩
            case rest =>
              obtain ⟨hpv, HBC⟩ := hcut
              subst hpv
              obtain ⟨wv, hwv⟩ : ∃ W, W = wc := ⟨_, rfl⟩
              subst hwv
              have HIC := Lib.hid (HI.out.2.2.fresh HBC.out HS6.out.2)
              have H8C := Lib.hid (H8.out.belowAll HBC.out)
              have HRC2 := Lib.hid (HR.out.below HBC.out)
              have HWC2 := Lib.hid (HW.out.below HBC.out)
              have HFC := Lib.hid (HFI.out.agree (Agree.of_below HBC.out HC8.out.2.2.2.1))
              have HKC : Hid (KeepsFrom w6.heap.size W wv ∧ KpT n₀ w6.heap.size W wv ∧ W.heap.size ≤ wv.heap.size) := ⟨(Turns.below (lo := w6.heap.size) HBC.out).keeps, kpt_fresh HBC.out HC8.out.2.2.2.2, HBC.out.size⟩
              have q4 := HIC.out.hk.cell 0
              have q1 := HIC.out.hc.cell 1
              simp only [List.getElem?_cons_zero, List.getElem?_cons_succ] at q4 q1
              obtain ⟨cb, hcb⟩ : ∃ cb, (g || (decide (0 < k) && mvsP ((k : Int) - 1) m)) = cb := ⟨_, rfl⟩
              have HNU : Hid (cnum K k g m = if cb = true then (k + 1) % (K + 1) else k) := by show _ = _; unfold cnum; rw [hcb]
              rw [hcb]
              obtain ⟨nx, hnx⟩ : ∃ nx, cnum K k g m = nx := ⟨_, rfl⟩
              rw [hnx] at HNU HCM
              have HNB : Hid (nx ≤ 20000) := by
                have h := (cnum_le HKK.out g m).1
                show _ ≤ _
                omega
              clear hcb hnx q7 HFI HI HR HW H8 HBC
              gi_upto_if 59 with (fail)
              gi_cut [9] from 45 (fun pv wx => pv = .int .i64 (nx : Int) ∧ wx = wv)
              case first =>
                cases cb with
                | true =>
                  have hn1 : nx = (k + 1) % (K + 1) := HNU.out
                  have hw1 : IntKind.i64.wrap ((k : Int) + 1) = (k : Int) + 1 := by rw [IntKind.wrap_i64]; omega
                  have hw2 : IntKind.i64.wrap ((K : Int) + 1) = (K : Int) + 1 := by rw [IntKind.wrap_i64]; omega
                  have d0 : ((K : Int) + 1 == 0) = false := by rw [Bool.eq_false_iff]; intro h3; have h4 := eq_of_beq h3; omega
                  have d1 : ((K : Int) + 1 == -1) = false := by rw [Bool.eq_false_iff]; intro h3; have h4 := eq_of_beq h3; omega
                  have hz : ¬ (K : Int) + 1 = 0 := by omega
                  have hz1 : ¬ (K : Int) + 1 = -1 := by omega
                  have hm : ((k : Int) + 1).tmod ((K : Int) + 1) = (nx : Int) := by
                    rw [Int.tmod_eq_emod_of_nonneg (by omega), hn1]
                    rfl
                  have hw3 : IntKind.i64.wrap (((k : Int) + 1).tmod ((K : Int) + 1)) = (nx : Int) := by rw [hm, IntKind.wrap_i64]; have := HNB.out; omega
                  clear hn1 hm
                  gi_wp2
                  gi_meet
                  case rel => exact ⟨by have h : nx = (k + 1) % (K + 1) := HNU.out; rw [h]; rfl, rfl⟩
                | false =>
                  have hn1 : nx = k := HNU.out
                  subst hn1
                  gi_wp2
                  gi_meet
                  case rel => exact ⟨rfl, rfl⟩
              case rest =>
                obtain ⟨hpv, hwe⟩ := hcut
                subst hpv
                rw [hwe]
                clear hwe
                have HCN : Hid (CnM n₀ l b1 b3 b4 b7 b8 c W0.heap.size I.tid I.dyn K k g w6 X m W wv) := ⟨vr, vw, H8C.out, HRC2.out, HWC2.out, HIC.out, HFC.out, HKC.out.1, HKC.out.2.1, HKC.out.2.2⟩
                have HS0 : Hid (W0.heap.size ≤ wv.heap.size) := Nat.le_trans HC8.out.2.2.1 HKC.out.2.2
                have HCX : Hid (c ≤ wv.heap.size) := HFC.out.1
                clear HNU HIC HFC HKC q4 q1
                gi_upto_region 10 with (fail)
                refine wpIn_region_rhoG (by kernel_rfl) (fun (r : Value × Value) j => ([(.pointer (some ⟨b8, 6, none⟩)), (vr), (r.1), (.pointer (some ⟨b8, 7, none⟩)), (vw), (r.2), (.pointer (some ⟨b8, 6, none⟩)), (undef), (.pointer (some ⟨b8, 7, none⟩)), (undef)] : List Value).getD j undef) (fun r L w2 => ClW wv b8 W0.heap.size m vr vw r L w2) [(0, 66), (1, 67), (2, 68), (3, 69), (4, 70), (5, 71), (6, 72), (8, 73)] 83 rfl (by kernel_rfl) (by kernel_rfl) [] (by kernel_rfl) (fun _ _ h => by cases h) (undef, undef) (ClW.start H8C.out 10) (fun i hi => ?_) (fun r w9 hW9 => ?_)
                · have hi2 : i < 10 := hi
                  clear hi
                  have hi3 : i = 0 ∨ i = 1 ∨ i = 2 ∨ i = 3 ∨ i = 4 ∨ i = 5 ∨ i = 6 ∨ i = 7 ∨ i = 8 ∨ i = 9 := by omega
                  clear hi2
                  rcases hi3 with rfl | rfl | rfl | rfl | rfl | rfl | rfl | rfl | rfl | rfl
                  · exact RhoOp.pure rfl (fun r L b w2 hl hR hW => by
                      have h8 : b.eval (.tmp 8) = .pointer (some ⟨b8, 0, none⟩) := (hR.old (by decide) (by kernel_rfl)).trans rfl
                      simp only [Act.eval, Array.getD_eq_getD_getElem?] at h8
                      show (execOp b.eval _).run _ _ = .ok (.value (.pointer (some ⟨b8, 6, none⟩))) _
                      unfold execOp
                      simp [go_sem, h8]) (fun r L w2 hs h => h.pure (by decide) (by decide) (by decide) (by decide) (by decide) (by decide))
                  · exact RhoOp.pure rfl (fun r L b w2 hl hR hW => by
                      have e := hW.cell6 hl
                      have h66 : b.eval (.tmp 66) = .pointer (some ⟨b8, 6, none⟩) := hR.of (j := 0) (by decide) (by kernel_rfl)
                      simp only [Act.eval, Array.getD_eq_getD_getElem?] at h66
                      show (execOp b.eval _).run _ _ = .ok (.value (vr)) _
                      unfold execOp
                      simp [go_sem, h66, e]) (fun r L w2 hs h => h.load1 (by rw [hs]; decide))
                  · exact RhoOp.call (f := 14) rfl (fun r L b w2 hs hl hR hW => by
                      have h67 : b.eval (.tmp 67) = vr := hR.of (j := 1) (by decide) (by kernel_rfl)
                      simp only [Act.eval, Array.getD_eq_getD_getElem?] at h67
                      refine ⟨#[vr], ?_, ?_⟩
                      · unfold execOp
                        simp [go_sem, h67]
                      · have hlo := Nat.le_trans HS0.out hW.fr.size
                        refine (cloneIntsFn (hW.rows H8C.out HRC2.out HWC2.out).1.2 (ints_one _) HRM.out.1).mono fun e w4 h => ?_
                        obtain ⟨hb, v, he, hv1, hv2⟩ := h
                        refine ⟨(v, r.2), fun j hj => ?_, he, hW.call2 (by rw [hs]; decide) hl (hR.on (j := 1) (by kernel_rfl)) hb (RowX.clone hv1 hv2 hlo)⟩
                        match j, hj with
                          | 2, hj => rw [hl] at hj; cases hj
                          | 0, _ => rfl
                          | 1, _ => rfl
                          | 3, _ => rfl
                          | 4, _ => rfl
                          | 5, _ => rfl
                          | 6, _ => rfl
                          | 7, _ => rfl
                          | 8, _ => rfl
                          | 9, _ => rfl
                          | j + 10, _ => rfl)
                  · exact RhoOp.pure rfl (fun r L b w2 hl hR hW => by
                      have h8 : b.eval (.tmp 8) = .pointer (some ⟨b8, 0, none⟩) := (hR.old (by decide) (by kernel_rfl)).trans rfl
                      simp only [Act.eval, Array.getD_eq_getD_getElem?] at h8
                      show (execOp b.eval _).run _ _ = .ok (.value (.pointer (some ⟨b8, 7, none⟩))) _
                      unfold execOp
                      simp [go_sem, h8]) (fun r L w2 hs h => h.pure (by decide) (by decide) (by decide) (by decide) (by decide) (by decide))
                  · exact RhoOp.pure rfl (fun r L b w2 hl hR hW => by
                      have e := hW.cell7 hl
                      have h69 : b.eval (.tmp 69) = .pointer (some ⟨b8, 7, none⟩) := hR.of (j := 3) (by decide) (by kernel_rfl)
                      simp only [Act.eval, Array.getD_eq_getD_getElem?] at h69
                      show (execOp b.eval _).run _ _ = .ok (.value (vw)) _
                      unfold execOp
                      simp [go_sem, h69, e]) (fun r L w2 hs h => h.load4 (by rw [hs]; decide))
                  · exact RhoOp.call (f := 14) rfl (fun r L b w2 hs hl hR hW => by
                      have h70 : b.eval (.tmp 70) = vw := hR.of (j := 4) (by decide) (by kernel_rfl)
                      simp only [Act.eval, Array.getD_eq_getD_getElem?] at h70
                      refine ⟨#[vw], ?_, ?_⟩
                      · unfold execOp
                        simp [go_sem, h70]
                      · have hlo := Nat.le_trans HS0.out hW.fr.size
                        refine (cloneIntsFn (hW.rows H8C.out HRC2.out HWC2.out).2.2 (ints_one _) HRM.out.2).mono fun e w4 h => ?_
                        obtain ⟨hb, v, he, hv1, hv2⟩ := h
                        refine ⟨(r.1, v), fun j hj => ?_, he, hW.call5 (by rw [hs]; decide) hl (hR.on (j := 4) (by kernel_rfl)) hb (RowX.clone hv1 hv2 hlo)⟩
                        match j, hj with
                          | 5, hj => rw [hl] at hj; cases hj
                          | 0, _ => rfl
                          | 1, _ => rfl
                          | 2, _ => rfl
                          | 3, _ => rfl
                          | 4, _ => rfl
                          | 6, _ => rfl
                          | 7, _ => rfl
                          | 8, _ => rfl
                          | 9, _ => rfl
                          | j + 10, _ => rfl)
                  · exact RhoOp.pure rfl (fun r L b w2 hl hR hW => by
                      have h8 : b.eval (.tmp 8) = .pointer (some ⟨b8, 0, none⟩) := (hR.old (by decide) (by kernel_rfl)).trans rfl
                      simp only [Act.eval, Array.getD_eq_getD_getElem?] at h8
                      show (execOp b.eval _).run _ _ = .ok (.value (.pointer (some ⟨b8, 6, none⟩))) _
                      unfold execOp
                      simp [go_sem, h8]) (fun r L w2 hs h => h.pure (by decide) (by decide) (by decide) (by decide) (by decide) (by decide))
                  · exact RhoOp.store rfl rfl (fun r L b w2 hs hl hR hW => by
                      have h2 := hR.on (j := 2) (by kernel_rfl)
                      have hrx := hW.c1 h2
                      have hst := store1 (P := Try.prog) (ty := 25) hW.box (i := 6) (Nat.le_of_ble_eq_true rfl) sz_Ints (hrx.cells) (hrx.2.cell1)
                      have h72 : b.eval (.tmp 72) = .pointer (some ⟨b8, 6, none⟩) := hR.of (j := 6) (by decide) (by kernel_rfl)
                      have h68 : b.eval (.tmp 68) = r.1 := hR.of (j := 2) (by decide) (by kernel_rfl)
                      simp only [Act.eval, Array.getD_eq_getD_getElem?] at h72 h68
                      refine ⟨r, w2.setCell ⟨b8, 6, none⟩ r.1, fun _ _ => rfl, ?_, ?_⟩
                      · show (execOp b.eval _).run _ _ = .ok .skip _
                        unfold execOp
                        simp [Act.eval, h72, h68, Sem.run_bind, hst]
                      · exact hW.store7 (by rw [hs]; decide) hl h2 rfl)
                  · exact RhoOp.pure rfl (fun r L b w2 hl hR hW => by
                      have h8 : b.eval (.tmp 8) = .pointer (some ⟨b8, 0, none⟩) := (hR.old (by decide) (by kernel_rfl)).trans rfl
                      simp only [Act.eval, Array.getD_eq_getD_getElem?] at h8
                      show (execOp b.eval _).run _ _ = .ok (.value (.pointer (some ⟨b8, 7, none⟩))) _
                      unfold execOp
                      simp [go_sem, h8]) (fun r L w2 hs h => h.pure (by decide) (by decide) (by decide) (by decide) (by decide) (by decide))
                  · exact RhoOp.store rfl rfl (fun r L b w2 hs hl hR hW => by
                      have h2 := hR.on (j := 5) (by kernel_rfl)
                      have hrx := hW.c2 h2
                      have hst := store1 (P := Try.prog) (ty := 25) hW.box (i := 7) (Nat.le_of_ble_eq_true rfl) sz_Ints (hrx.cells) (hrx.2.cell1)
                      have h73 : b.eval (.tmp 73) = .pointer (some ⟨b8, 7, none⟩) := hR.of (j := 8) (by decide) (by kernel_rfl)
                      have h71 : b.eval (.tmp 71) = r.2 := hR.of (j := 5) (by decide) (by kernel_rfl)
                      simp only [Act.eval, Array.getD_eq_getD_getElem?] at h73 h71
                      refine ⟨r, w2.setCell ⟨b8, 7, none⟩ r.2, fun _ _ => rfl, ?_, ?_⟩
                      · show (execOp b.eval _).run _ _ = .ok .skip _
                        unfold execOp
                        simp [Act.eval, h73, h71, Sem.run_bind, hst]
                      · exact hW.store9 (by rw [hs]; decide) hl h2 rfl)
                · refine puts_as (ps := [(0, 66, .pointer (some ⟨b8, 6, none⟩)), (1, 67, vr), (2, 68, r.1), (3, 69, .pointer (some ⟨b8, 7, none⟩)), (4, 70, vw), (5, 71, r.2), (6, 72, .pointer (some ⟨b8, 6, none⟩)), (8, 73, .pointer (some ⟨b8, 7, none⟩))]) rfl ?_
                  simp only [puts, Act.put, List.setIfInBounds_toArray, List.set_cons_zero, List.set_cons_succ]
                  obtain ⟨hfr, h89, hr9, hw9⟩ := hW9.done (by decide)
                  obtain ⟨vr9, vw9⟩ := r
                  have HCN9 := Lib.hid (HCN.out.next hfr h89 hr9 hw9 HC8.out.1 HC8.out.2.1 HS6.out.2 HCX.out)
                  have HCX9 : Hid (c ≤ w9.heap.size) := Nat.le_trans HCX.out hfr.size
                  have x4 : w9.cell? ⟨b8, 4, none⟩ = some (.string m.dst) := h89.cell 4
                  have HJN := Lib.hid (B32.joinedFn (n := nx) (x := m.dst) HNB.out (by have := HDS.out; omega) w9)
                  have H89 := Lib.hid h89
                  have HR9 := Lib.hid hr9
                  have HW9 := Lib.hid hw9
                  clear hfr h89 hr9 hw9 hW9 HCN HCX HS0 H8C HRC2 HWC2
                  gi_wp2_with (fail)
                  refine ⟨trivial, ?_⟩
                  refine (show CallsIn (Fence.wide.inRound l2) 2 _ _ _ _ _ from callsIn_wide.2 HJN.out).mono ?_
                  rintro e w10 ⟨rfl, hb10⟩
                  have H810 := Lib.hid (H89.out.belowAll hb10)
                  have HB10 := Lib.hid hb10
                  clear hb10 HJN x4
                  gi_wp2_with (refine wpListIn_store1 rfl 9 _ _ rfl b8 4 (.string (joinS nx m.dst)) rfl rfl H810.out (by simp [mvC]) sz_Str rfl rfl ?_)
                  refine Named.mk (fun w11 hW11 => ?_)
                  have hf11 : Fr (fun q => q = b8) w10 w11 := by rw [hW11]; exact Fr.setRX _ _ 4 _
                  have h811 : Holds w11 b8 44 (mvC { m with dst := joinS nx m.dst } vr9 vw9) := H810.out.stored hW11 (by simp [mvC])
                  have hf12 : Fr (fun q => q = b8) w9 w11 := (Fr.of_below HB10.out (fun q => q = b8)).trans hf11 fun _ _ h => h
                  have HFIN : Hid (CnM n₀ l b1 b3 b4 b7 b8 c W0.heap.size I.tid I.dyn K k g w6 X (cmove K k g m) W w11) := by
                    show CnM _ _ _ _ _ _ _ _ _ _ _ _ _ _ _ _ _ _ _
                    rw [HCM.out]
                    exact HCN9.out.next hf12 h811 (HR9.out.store H89.out hf12) (HW9.out.store H89.out hf12) HC8.out.1 HC8.out.2.1 HS6.out.2 HCX9.out
                  clear hW11 hf11 h811 hf12 HCN9 HR9 HW9 H89 H810 HB10
                  gi_wp2
                  gi_meet
                  case rel => exact HFIN
          · have hbe : (m.bad == 0) = false := by simp [hb]
            have HCM : Hid (cmove K k g m = m) := by show _ = _; unfold cmove; rw [if_neg hb]
            clear hb ee5
            gi_wp2
            gi_meet
            case rel =>
              show CnM _ _ _ _ _ _ _ _ _ _ _ _ _ _ _ _ _ _ _
              rw [HCM.out]
              exact CnM.start H8.out HR.out HW.out HI.out.2.2 HFI.out HC8.out.2.2.2.2
        case rest =>
          obtain ⟨vr9, vw9, g1, g2, g3, g4, g5, g6, g7, g8⟩ := hcut.out
          have hx5 := g5.out
          rw [HX.out] at hx5
          obtain ⟨ht1, ht2⟩ := tells_map HN.out HY0.out.1 hj HM.out g2 g3
          obtain ⟨fn, tmps, assign, body, hy, hRR⟩ := yieldAt_round (l0 := l2) (m := 2) (HYY.out ys (.agg (mvC (cmove K k g m) vr9 vw9).toArray) W0 wc HY0.out.2 hx5.2 hx5.1 ht1 ht2)
          have HRG := Lib.hid (g1.range (i := 0) (n := 9) (xs := mvC (cmove K k g m) vr9 vw9) rfl)
          have HR2 := Lib.hid hRR
          have q3 := g4.hy.cell 0
          simp only [List.getElem?_cons_zero] at q3
          have HG4 := Lib.hid g4
          have HG6 := Lib.hid (show KeepsFrom w6.heap.size W wc ∧ KpT n₀ w6.heap.size W wc from ⟨g6, g7⟩)
          clear hx5 ht1 ht2 hRR g1 g2 g3 g4 g5 g6 g7 g8 hcut ee5 HI HFI H8 HR HW
          gi_wp2_with (refine wpListIn_load_mid rfl 44 _ rfl b8 0 rfl (mvC (cmove K k g m) vr9 vw9) _ HRG.out Try.underlying44 rfl sz_Move ?_)
          refine HR2.out.mono ?_
          rintro e w12 ⟨hkf, (⟨rfl, hj12, hk12⟩ | ⟨rfl, hjx⟩)⟩
          · have hkf6 := HG6.out.1.trans (KeepsFrom.high hkf HS6.out.1)
            have hws : w.heap.size ≤ w6.heap.size := Nat.le_trans HWS.out HS6.out.1
            have hk6 := HG6.out.2.trans (KpT.high hk12 hws)
            have hcs := HG4.out.kpt hk12 HSC.out.2.2.1 HSC.out.2.2.2
            have HKF6 := Lib.hid hkf6
            have HK6 := Lib.hid hk6
            have HCS := Lib.hid hcs
            have HJ12 := Lib.hid hj12
            clear hkf hkf6 hk12 hk6 hcs hj12 HG4 HG6 HRG HR2 hy q3
            gi_wp2
            exact ⟨HKF6.out, HK6.out, by simp; omega, ⟨_, by simp [HY0.out.1], HJ12.out⟩, HCS.out⟩
          · have hkf6 := HG6.out.1.trans (KeepsFrom.high hkf HS6.out.1)
            have HKF6 := Lib.hid hkf6
            have HJX12 := Lib.hid hjx
            clear hkf hkf6 hjx HG4 HG6 HRG HR2 hy q3
            gi_wp2
            exact ⟨HKF6.out, rfl, _, HJX12.out⟩
      case done =>
        rintro D xs W hD hlen ⟨_, ⟨ys, hys, hj0⟩, hcs⟩ hK
        subst hT
        have HP : Hid (∀ w', Fr (fun q => q = D) W w' → ys.length = (cnext S K s).length ∧ J ys w') := fun w' hf => ⟨by rw [HN.out, hys, hlen, List.length_map], HJ.out ys W w' (some D) hj0 ⟨hf.os, hf.tape, hf.output, hf.size, fun k hk hne => hf.block k hk fun e => hne (by rw [e])⟩ fun r e => by
          injection e with e
          subst e
          exact ⟨Nat.le_trans HS6.out.1 hD, _, hK, rfl⟩⟩
        have HK3 := Lib.hid hK
        clear hj0 hcs hK hseq hys hlen
        gi_wp2
        exact leaves_marks (by simp) [D] W (by simp) (fun E hE => by rw [List.mem_singleton] at hE; rw [hE]; exact HK3.out) fun w' hf => ⟨_, results_none rfl _ _ _, ⟨_, rfl⟩, .inl ⟨ys, HP.out w' (hf.mono fun q _ hq => by simpa using hq)⟩⟩
      case stop =>
        rintro D c pre W hD - ⟨rfl, ys, hjx⟩ hK
        subst hT
        have HP : Hid (∀ w', Fr (fun q => q = D) W w' → Jx ys w') := fun w' hf => HJX.out ys W w' (some D) hjx ⟨hf.os, hf.tape, hf.output, hf.size, fun k hk hne => hf.block k hk fun e => hne (by rw [e])⟩ fun r e => by
          injection e with e
          subst e
          exact ⟨Nat.le_trans HS6.out.1 hD, _, hK, rfl⟩
        have HK3 := Lib.hid hK
        clear hjx hK hseq
        gi_wp2
        exact leaves_marks (by simp) [D] W (by simp) (fun E hE => by rw [List.mem_singleton] at hE; rw [hE]; exact HK3.out) fun w' hf => ⟨_, results_none rfl _ _ _, ⟨_, rfl⟩, .inr ⟨ys, trivial, HP.out w' (hf.mono fun q _ hq => by simpa using hq)⟩⟩
end Go.Proofs.Ytokkjifmgmngjaa.G
