/- The walk of copies.able: a range over a function that may return. -/
import Derived.Test.YtokkjifmgmngjaaFme
namespace Go.Proofs.Ytokkjifmgmngjaa.G
open Go.RowKit Go.Maps
set_option linter.unusedVariables false
set_option linter.unusedSimpArgs false
attribute [local go_sem] Oper.semAt_some run_makeMap

theorem kpt_fresh {n₀ lo : Nat} {A B : World} (hb : Below A.heap.size A B) (hn : n₀ ≤ A.heap.size) : KpT n₀ lo A B := ⟨hb.mono hn, fun k t cs _ h => h.belowAll hb⟩
theorem results_able {tmps : Array Value} {W : World} {b : Nat} {v : Bool} (h : Holds W b 4 [.bool v]) (ht : tmps[6]?.getD undef = .pointer (some ⟨b, 0, none⟩)) : (results Try.f61 tmps).run Try.prog W = .ok (.bool v) W := by
  have e := h.cell 0
  simp only [List.getElem?_cons_zero] at e
  simp [results, Try.f61, ht, asAddr, go_sem, e]
theorem KeepsFrom.of_fr {F : Nat → Prop} {lo : Nat} {W W' : World} (hf : Fr F W W') (hF : ∀ q, F q → ∃ t cs, Holds W q t cs) : KeepsFrom lo W W' := ⟨hf.size, fun k o hB hk ho => (hf.block k (Array.getElem?_eq_some_iff.1 hk).1 fun hFk => by
  obtain ⟨t, cs, hh⟩ := hF k hFk
  unfold Holds at hh
  rw [hk] at hh
  injection hh with hh
  rw [hh] at ho
  cases ho).trans hk⟩
structure AblS (base b5 b6 : Nat) (p : Int) (w0 W : World) (v : Bool) : Prop where
  below : Below base w0 W
  h5 : Holds W b5 3 [.int .i64 p]
  h6 : Holds W b6 4 [.bool v]
theorem AblS.fresh {base b5 b6 : Nat} {p : Int} {w0 W W' : World} {v : Bool} (h : AblS base b5 b6 p w0 W v) (hb : Below W.heap.size W W') (hz : base ≤ w0.heap.size) : AblS base b5 b6 p w0 W' v := ⟨h.below.trans (hb.mono (Nat.le_trans hz h.below.size)), h.h5.belowAll hb, h.h6.belowAll hb⟩
theorem AblS.kept {base b5 b6 lo : Nat} {p : Int} {w0 W W' : World} {v : Bool} {row : Option Nat} (h : AblS base b5 b6 p w0 W v) (hl : base ≤ lo) (hz : base ≤ w0.heap.size) (hg : W.grownBy W' row) (hr : ∀ r, row = some r → lo ≤ r ∧ ∃ o : Obj, W.heap[r]? = some o ∧ o.isCells = false) : AblS base b5 b6 p w0 W' v :=
  ⟨h.below.grown hg (Nat.le_trans hz h.below.size) fun k hk => by have := (hr k hk).1; omega, h.h5.kept_row hg fun r e => (hr r e).2, h.h6.kept_row hg fun r e => (hr r e).2⟩
set_option maxHeartbeats 4000000 in
set_option maxRecDepth 100000 in
theorem ableFn {I : Ifc} {S : Sys} {w : World} {K : Nat} {x : ByteArray} {p : Int} (hS : SysOk I S w) (hx : x.size ≤ 1048576) : Calls Try.prog 61 #[.agg #[.iface I.tid I.dyn, .int .i64 (K : Int)], .string x, .int .i64 p] w (BoolB (ableP S x p) w) := by
  have m1 := hS.mN
  have m2 := hS.eN
  obtain ⟨ms, hms⟩ : ∃ l, S.next x = l := ⟨_, rfl⟩
  have HNX := Lib.hid (hS.next)
  have HEN := Lib.hid hS.enter
  have HAB : Hid (ableP S x p = ms.any (mvsP p)) := by show _ = _; unfold ableP; rw [hms]
  have HMS := Lib.hid hms
  clear hS hms
  refine (callsIn_wide (n := 5)).1 ?_
  refine callsIn_of_wp_marks Try.func61 rfl trivial ?_ rfl
  simp only [Try.ntmps61, List.size_toArray, List.length_cons, List.length_nil, Nat.reduceAdd, Nat.reduceSub, Array.replicate_succ, Array.replicate_zero, List.push_toArray, List.append_toArray, List.nil_append, List.cons_append]
  obtain ⟨w1, hw1⟩ : ∃ W, W = ((w.alloc (.cells #[.iface I.tid I.dyn, .int .i64 (K : Int)] 64)).alloc (.cells #[.int .i64 p] 3)).alloc (.cells #[.bool false] 4) := ⟨_, rfl⟩
  have hb1 : Below w.heap.size w w1 := by rw [hw1]; exact (((Below.refl _ _).alloc (Nat.le_refl _) _).alloc (by simp) _).alloc (by simp; omega) _
  have h3 : Holds w1 w.heap.size 64 [.iface I.tid I.dyn, .int .i64 (K : Int)] := by rw [hw1]; exact ((Holds.new w 64 #[.iface I.tid I.dyn, .int .i64 (K : Int)]).alloc _).alloc _
  have h5 : Holds w1 (w.heap.size + 1) 3 [.int .i64 p] := by
    have h := (Holds.new (w.alloc (.cells #[.iface I.tid I.dyn, .int .i64 (K : Int)] 64)) 3 #[.int .i64 p]).alloc (.cells #[.bool false] 4)
    simp only [World.size_alloc] at h
    rw [hw1]; exact h
  have h6 : Holds w1 (w.heap.size + 1 + 1) 4 [.bool false] := by
    have h := Holds.new ((w.alloc (.cells #[.iface I.tid I.dyn, .int .i64 (K : Int)] 64)).alloc (.cells #[.int .i64 p] 3)) 4 #[.bool false]
    simp only [World.size_alloc] at h
    rw [hw1]; exact h
  have e0 := h3.cell 0
  simp only [List.getElem?_cons_zero] at e0
  have HB1 := Lib.hid hb1
  have H5 := Lib.hid h5
  have H6 := Lib.hid h6
  clear hb1 h3 h5 h6
  gi_wp2_with fail
  rw [← hw1]
  clear hw1
  refine ⟨trivial, ?_⟩
  refine (callsIn_wide.2 (HNX.out w1 x HB1.out hx)).mono ?_
  rintro e w9 ⟨hb9, f, rfl, lb, rfl, hit⟩
  have HB9 : Hid (Below w.heap.size w w9) := HB1.out.trans (hb9.mono HB1.out.size)
  have HA0 : Hid (AblS w.heap.size (w.heap.size + 1) (w.heap.size + 1 + 1) p w w9 false) := ⟨HB9.out, H5.out.belowAll hb9, H6.out.belowAll hb9⟩
  have hbl : w.heap.size ≤ w9.heap.size := HB9.out.size
  have hl6 : w.heap.size + 1 + 1 < w9.heap.size := HA0.out.h6.lt
  rw [HMS.out] at hit
  have hseq := hit 4 w.heap.size w9 (Nat.le_refl _) hbl (Below.refl _ _)
  clear hit
  clear hb9 H5 H6 e0
  obtain ⟨b6, hb6⟩ : ∃ b, w.heap.size + 1 + 1 = b := ⟨_, rfl⟩
  obtain ⟨b5, hb5⟩ : ∃ b, w.heap.size + 1 = b := ⟨_, rfl⟩
  rw [hb6] at HA0 hl6 ⊢
  rw [hb5] at HA0 ⊢
  have HL5 : Hid (w.heap.size ≤ b5 ∧ b5 < b6 ∧ w.heap.size ≤ b6) := by show _ ∧ _; omega
  clear hb6 hb5
  gi_wp2
  refine wpIn_at fun T0 hT => ?_
  refine wpIn_rangeFunc_tells (α := Value) (encs := fun y => #[y]) (Kp := KpT w.heap.size w9.heap.size) (S := fun ys => ys.length = ms.length) (Sp := fun _ => True) (N := ms.length) (w0 := w9) (G := Tells ms) rfl (by omega) (gf := I.fG) (lb := lb) (by subst hT; rfl) trivial HEN.out KpT.trans (KpT.put hbl) (Below.refl _ _) (fun _ => rfl)
    (fun pre W => pre.length ≤ ms.length ∧ (∀ m ∈ ms.take pre.length, mvsP p m = false) ∧ AblS w.heap.size b5 b6 p w W false) hseq (fun c pre W => c = .ret ∧ ms.any (mvsP p) = true ∧ AblS w.heap.size b5 b6 p w W true) ?hI ?hIx ⟨Nat.zero_le _, by simp, HA0.out⟩
    (fun pre y a' W => ∃ (b8 : Nat) (hj : pre.length < ms.length) (vr vw : Value), a' = { tmps := (T0.setIfInBounds 12 y).setIfInBounds 7 (.pointer (some ⟨b8, 0, none⟩)), defers := [] } ∧ Holds W b8 44 (mvC ms[pre.length] vr vw) ∧ MvF (fun _ => True) W ms[pre.length] (mvC ms[pre.length] vr vw)) ?hAx ?assign ?body ?done ?stop
  case hI => exact fun pre V V' row hs hg hr => ⟨hs.1, hs.2.1, hs.2.2.kept hbl (Nat.le_refl _) hg hr⟩
  case hIx => exact fun c pre V V' row hs hg hr => ⟨hs.1, hs.2.1, hs.2.2.kept hbl (Nat.le_refl _) hg hr⟩
  case hAx =>
    intro pre y a' s V V' row hs hg hr
    obtain ⟨b8, hj, vr, vw, h1, h2, q1, q2, q3, q4, q5⟩ := hs
    exact ⟨b8, hj, vr, vw, h1, h2.kept_row hg fun r e => (hr r e).2, q1, q2, q3, q4.kept hg fun r e => (hr r e).2, q5.kept hg fun r e => (hr r e).2⟩
  case assign =>
    intro l pre y W0 W K hi0 hb01 hi hG hK
    obtain ⟨hj, vr, vw, rfl, hr, hw⟩ := hG
    subst hT
    have HZ14 := Lib.hid (Holds.new W 44 #[.int .i64 0, .int .i64 0, .int .i64 0, .int .i64 0, .string ⟨#[]⟩, .int .i64 0, .slice none 0 0, .slice none 0 0, .int .u64 0])
    have hone : (mvC ms[pre.length] vr vw).all (·.oneCell') = true := by
      have q1 := hr.2.cell1
      have q2 := hw.2.cell1
      simp [mvC, q1, q2]
      simp [Value.oneCell']
    gi_wp2_with (refine wpListIn_storeB rfl 44 _ _ rfl W.heap.size 0 (mvC ms[pre.length] vr vw) rfl rfl HZ14.out (Nat.le_of_ble_eq_true rfl) sz_Move hone ?_)
    refine Named.mk (fun W' hW' => ?_)
    have hb' : Below W.heap.size W W' := by rw [hW']; exact Below.far (Below.refl _ _) (Nat.le_refl _) _ _ _
    have h14 : Holds W' W.heap.size 44 (mvC ms[pre.length] vr vw) := HZ14.out.stored hW' (Nat.le_of_ble_eq_true rfl)
    have hmv : MvF (fun _ => True) W' ms[pre.length] (mvC ms[pre.length] vr vw) := ⟨vr, vw, rfl, (hr.below hb').2.mono fun _ _ _ => trivial, (hw.below hb').2.mono fun _ _ _ => trivial⟩
    have hi2 := hi.2.2.fresh hb' (Nat.le_refl _)
    have hbw := hi.2.2.below.size
    have hkk := (Turns.below (lo := w9.heap.size) hb').keeps
    have hbk : KpT w.heap.size w9.heap.size W W' := kpt_fresh hb' hbw
    clear hW' HZ14
    gi_wp2
    exact hK _ _ hkk hbk ⟨hi.1, hi.2.1, hi2⟩ ⟨W.heap.size, hj, vr, vw, rfl, h14, hmv⟩
  case body =>
    rintro l pre y a' W hl2 hrec hi ⟨b8, hj, vr, vw, rfl, h8, hG⟩ hlen
    subst hT
    have HI := Lib.hid hi
    have HMV := Lib.hid hG
    have HRG := Lib.hid (h8.range (i := 0) (n := 9) (xs := mvC ms[pre.length] vr vw) rfl)
    have e5 := hi.2.2.h5.cell 0
    simp only [List.getElem?_cons_zero] at e5
    clear hi hG h8
    gi_wp2_with (refine wpListIn_load_mid rfl 44 _ rfl b8 0 rfl (mvC ms[pre.length] vr vw) _ HRG.out Try.underlying44 rfl sz_Move ?_)
    refine ⟨trivial, ?_⟩
    refine (show CallsIn (Fence.wide.inRound l) 2 _ _ _ _ _ from callsIn_wide.2 (movesFn (p := p) HMV.out)).mono ?_
    rintro e w2 ⟨rfl, hb2⟩
    have hbw := HI.out.2.2.below.size
    have hi2 := HI.out.2.2.fresh hb2 (Nat.le_refl _)
    have HI2 := Lib.hid hi2
    have HK2 : Hid (KeepsFrom w9.heap.size W w2) := (Turns.below (lo := w9.heap.size) hb2).keeps
    have HT2 : Hid (KpT w.heap.size w9.heap.size W w2) := kpt_fresh hb2 hbw
    have hmem : ms[pre.length] ∈ ms := List.getElem_mem hj
    have hlp : (pre ++ [y]).length = pre.length + 1 := by simp
    have htk : ∀ m ∈ ms.take (pre.length + 1), mvsP p ms[pre.length] = false → mvsP p m = false := fun m hm hz => by
      rw [List.take_add_one, List.getElem?_eq_getElem hj] at hm
      rcases List.mem_append.1 hm with hm | hm
      · exact HI.out.2.1 m hm
      · simp at hm; rw [hm]; exact hz
    have HTK := Lib.hid htk
    have HLP := Lib.hid hlp
    have HME := Lib.hid hmem
    obtain ⟨mm, hmm⟩ : ∃ m, ms[pre.length] = m := ⟨_, rfl⟩
    have HMM := Lib.hid hmm
    rw [hmm]
    obtain ⟨bb, hbb⟩ : ∃ b, mvsP p mm = b := ⟨_, rfl⟩
    have HBB := Lib.hid hbb
    rw [hbb]
    clear hb2 hi2 hbw hmem hlp htk hmm hbb HI e5 HRG HMV
    cases bb with
    | false =>
      gi_wp2
      refine ⟨HK2.out, HT2.out, ?_, ?_, HI2.out⟩
      · rw [HLP.out]; exact hj
      · rw [HLP.out]; exact fun m hm => HTK.out m hm (by rw [HMM.out]; exact HBB.out)
    | true =>
      gi_wp2_with (refine wpListIn_store1 rfl 4 _ _ rfl b6 0 (.bool true) rfl rfl HI2.out.h6 (Nat.le_of_ble_eq_true rfl) sz_Bool1 rfl rfl ?_)
      refine Named.mk (fun w3 hW3 => ?_)
      have hf3 : Fr (fun q => q = b6) w2 w3 := by rw [hW3]; exact Fr.setRX _ _ 0 _
      have h63 : Holds w3 b6 4 [.bool true] := HI2.out.h6.stored hW3 (Nat.le_of_ble_eq_true rfl)
      have h53 := hf3.holds HI2.out.h5 (HI2.out.h5.ne_of_type HI2.out.h6 (by decide))
      have hb3 : Below w.heap.size w w3 := HI2.out.below.trans (hf3.to_below HI2.out.below.size fun q hq e => by have := HL5.out; have e : q = b6 := e; omega)
      have hk3 : KeepsFrom w9.heap.size w2 w3 := KeepsFrom.of_fr hf3 fun q e => by rw [e]; exact ⟨_, _, HI2.out.h6⟩
      have HAX : Hid (AblS w.heap.size b5 b6 p w w3 true) := ⟨hb3, h53, h63⟩
      have HK3 := Lib.hid (HK2.out.trans hk3)
      clear hW3 hf3 h63 h53 hb3 hk3 HI2 HK2 HT2
      gi_wp2
      refine ⟨HK3.out, rfl, ?_, HAX.out⟩
      rw [List.any_eq_true]
      exact ⟨_, HME.out, by rw [HMM.out]; exact HBB.out⟩
  case done =>
    rintro D xs W hD hlen ⟨_, hno, hA⟩ hK
    subst hT
    rw [hlen, List.take_length] at hno
    have HANY : Hid (ms.any (mvsP p) = false) := by
      show _ = _
      rw [List.any_eq_false]
      intro m hm
      rw [hno m hm]
      exact Bool.false_ne_true
    have HA := Lib.hid hA
    have HD := Lib.hid hK
    clear hno hA hK hlen hseq
    gi_wp2_with (refine wpListIn_store1 rfl 4 _ _ rfl b6 0 (.bool false) rfl rfl HA.out.h6 (Nat.le_of_ble_eq_true rfl) sz_Bool1 rfl rfl ?_)
    refine Named.mk (fun w3 hW3 => ?_)
    have hf3 : Fr (fun q => q = b6) W w3 := by rw [hW3]; exact Fr.setRX _ _ 0 _
    have h63 : Holds w3 b6 4 [.bool false] := HA.out.h6.stored hW3 (Nat.le_of_ble_eq_true rfl)
    have hb3 : Below w.heap.size w w3 := HA.out.below.trans (hf3.to_below HA.out.below.size fun q hq e => by have := HL5.out; have e : q = b6 := e; omega)
    have hK3 : w3.heap[D]? = some (.deferred (some [])) := (hf3.block D (Array.getElem?_eq_some_iff.1 HD.out).1 fun e => by have e : D = b6 := e; omega).trans HD.out
    have HP : Hid (∀ w', Fr (fun q => q = D) w3 w' → Holds w' b6 4 [.bool false] ∧ Below w.heap.size w w') := fun w' hf => ⟨hf.holds h63 (by omega), hb3.trans (hf.to_below hb3.size fun q hq e => by have e : q = D := e; omega)⟩
    have HK3 := Lib.hid hK3
    clear hW3 hf3 h63 hb3 hK3 HA HD
    gi_wp2
    exact leaves_marks (by simp) [D] w3 (by simp) (fun E hE => by rw [List.mem_singleton] at hE; rw [hE]; exact HK3.out) fun w' hf => ⟨_, results_able (HP.out w' (hf.mono fun q _ hq => by simpa using hq)).1 rfl, by rw [HAB.out, HANY.out], (HP.out w' (hf.mono fun q _ hq => by simpa using hq)).2⟩
  case stop =>
    rintro D c pre W hD - ⟨rfl, hyes, hA⟩ hK
    subst hT
    have HANY := Lib.hid hyes
    have HP : Hid (∀ w', Fr (fun q => q = D) W w' → Holds w' b6 4 [.bool true] ∧ Below w.heap.size w w') := fun w' hf => ⟨hf.holds hA.h6 (by omega), hA.below.trans (hf.to_below hA.below.size fun q hq e => by have e : q = D := e; omega)⟩
    have HK3 := Lib.hid hK
    clear hyes hA hK hseq
    gi_wp2
    exact leaves_marks (by simp) [D] W (by simp) (fun E hE => by rw [List.mem_singleton] at hE; rw [hE]; exact HK3.out) fun w' hf => ⟨_, results_able (HP.out w' (hf.mono fun q _ hq => by simpa using hq)).1 rfl, by rw [HAB.out, HANY.out], (HP.out w' (hf.mono fun q _ hq => by simpa using hq)).2⟩
end Go.Proofs.Ytokkjifmgmngjaa.G
