/- The walk of the statements' all. -/
import Derived.Test.YtpednhcfkjjcpaaMg9
namespace Go.Proofs.Ytpednhcfkjjcpaa
open Go.RowKit Go.Maps
set_option linter.unusedVariables false
set_option linter.unusedSimpArgs false
attribute [local go_sem] Oper.semAt_some run_makeMap

def AllPost (l : List PArc) (most : Nat) (w : World) (e : Ending) (w' : World) : Prop := Below w.heap.size w w' ∧ ∃ vo k fo lo, e = .returned vo ∧ (k = l.length ∨ k = most) ∧ k ≤ l.length ∧ k ≤ most ∧ w.heap.size ≤ lo ∧ w'.ownsRow lo 75 9 vo k fo ∧ LsF MovG (fun q => lo ≤ q ∧ vo.ownBlock ≠ some q) w' (l.zipIdx.take k) fo
theorem sz_Moves : (Try.prog.info? 28).map (·.size) = some 1 := by kernel_rfl
theorem SI.keptF {F R : Nat → Prop} {w w' : World} {v : Value} (h : SI R w v) (hf : Fr F w w') (hF : ∀ k, F k → ∃ o : Obj, w.heap[k]? = some o ∧ o.isCells = false) : SI R w' v :=
  h.imp id fun ⟨g, n, c, cs, h1, h2, h3, h4, h5, h6⟩ => ⟨g, n, c, cs, h1, h2, h3, h4, h5.keptF hf hF, h6⟩
theorem results_tmp6 (tmps : Array Value) (w : World) : (results Try.f27 tmps).run Try.prog w = .ok (tmps.getD 6 undef) w := by
  simp [results, Try.f27]
set_option maxHeartbeats 4000000 in
set_option maxRecDepth 100000 in
theorem allFn {P : Nat → Prop} {w : World} {N : PNet} {v : Value} {s : ByteArray} {most : Nat} (hv : NetV P w v N) (hs : s.size ≤ 1048576) (hsm : Small N) (hto : ∀ x ∈ N, ∀ a ∈ x.arcs, 0 ≤ a.to ∧ a.to < 9223372036854775808) (hm : most ≤ 2000001) : Calls Try.prog 27 #[.iface 83 (.agg #[v]), .string s, .int .i64 (most : Int)] w (AllPost ((nodeOf N s.data.toList).getD zeroN).arcs most w) := by
  have hv := hv.mono (Q := fun k => k < w.heap.size) (fun k _ hk => hk)
  obtain ⟨x, hx⟩ : ∃ x, ((nodeOf N s.data.toList).getD zeroN) = x := ⟨_, rfl⟩
  have hxn := nodeOf_small hsm s.data.toList
  rw [hx] at hxn ⊢
  have m1 := methNext v
  have HX := Lib.hid hx
  have HV := Lib.hid hv
  clear hx hv
  refine (callsIn_wide (n := 5)).1 ?_
  refine callsIn_of_wp_marks Try.func27 rfl trivial ?_ rfl
  simp only [Try.ntmps27, List.size_toArray, List.length_cons, List.length_nil, Nat.reduceAdd, Nat.reduceSub, Array.replicate_succ, Array.replicate_zero, List.push_toArray, List.append_toArray, List.nil_append, List.cons_append]
  obtain ⟨w1, hw1⟩ : ∃ W, W = (w.alloc (.cells #[.int .i64 (most : Int)] 3)).alloc (.cells #[.slice none 0 0] 28) := ⟨_, rfl⟩
  have hb1 : Below w.heap.size w w1 := by rw [hw1]; exact ((Below.refl _ _).alloc (Nat.le_refl _) _).alloc (by simp) _
  have h5 : Holds w1 w.heap.size 3 [.int .i64 (most : Int)] := by rw [hw1]; exact (Holds.new w 3 #[.int .i64 (most : Int)]).alloc _
  have h7 : Holds w1 (w.heap.size + 1) 28 [.slice none 0 0] := by
    have h := Holds.new (w.alloc (.cells #[.int .i64 (most : Int)] 3)) 28 #[.slice none 0 0]
    simp only [World.size_alloc] at h
    rw [hw1]; exact h
  have HB1 := Lib.hid hb1
  have H5 := Lib.hid h5
  have H7 := Lib.hid h7
  clear hb1 h5 h7
  gi_wp2_with fail
  rw [← hw1]
  clear hw1
  refine ⟨trivial, ?_⟩
  refine (callsIn_wide.2 (nextFn _ v s)).mono ?_
  rintro e w9 ⟨hb9, f, rfl, c0, c1, rfl, hc0, hc1, -, -⟩
  have HB9 : Hid (Below w.heap.size w w9) := HB1.out.trans (hb9.mono HB1.out.size)
  have HA0 : Hid (RngL w.heap.size w9.heap.size w.heap.size (w.heap.size + 1) w most x.arcs 0 w9) := by
    refine ⟨.slice none 0 0, ⟨HB9.out, H5.out.belowAll hb9, H7.out.belowAll hb9, ⟨[], ⟨rfl, .inl ⟨rfl, rfl⟩⟩, rfl⟩, Nat.le_refl _, ?_, by omega, ?_, Nat.le_refl _, Nat.le_refl _⟩, Nat.zero_le _, Nat.zero_le _⟩
    · have := (H5.out.belowAll hb9).lt; exact this
    · have := (H7.out.belowAll hb9).lt; exact this
  have hbl : w.heap.size ≤ w9.heap.size := HB9.out.size
  have hseq := next1 4 w.heap.size (f := undef) (HV.out.up (Keep.below HB9.out)) (fun q hq => hq) hbl hs hsm hto hc0 hc1
  rw [HX.out] at hseq
  clear hb9 H5 H7
  gi_wp2
  refine wpIn_at fun T hT => ?_
  refine wpIn_rangeFunc_tells (α := Value) (encs := fun y => #[y]) (Kp := Below w.heap.size) (S := fun ys => ys.length = x.arcs.length) (Sp := fun _ => True) (N := x.arcs.length) (w0 := w9) (G := Tells x.arcs) rfl (by omega) (gf := 79) (lb := #[.pointer (some ⟨c0, 0, none⟩), .pointer (some ⟨c1, 0, none⟩)]) (by subst hT; rfl) trivial (Go.Proofs.enters_of Try.func79 (by kernel_rfl) rfl) belowK_t (belowK_b hbl) (Below.refl _ _) (fun _ => rfl)
    (fun pre W => RngL w.heap.size w9.heap.size w.heap.size (w.heap.size + 1) w most x.arcs pre.length W) hseq (fun c pre W => c = .exit 0 ∧ RngL w.heap.size w9.heap.size w.heap.size (w.heap.size + 1) w most x.arcs most W) ?hI ?hIx HA0.out
    (fun pre y a' W => ∃ b8, a' = { tmps := (T.setIfInBounds 12 y).setIfInBounds 8 (.pointer (some ⟨b8, 0, none⟩)), defers := [] } ∧ RngB w.heap.size w9.heap.size w.heap.size (w.heap.size + 1) w most x.arcs pre.length b8 W) ?hAx ?assign ?body ?done ?stop
  case hI => exact fun pre V V' row hs hg hr => hs.kept hg hr
  case hIx => exact fun c pre V V' row hs hg hr => ⟨hs.1, hs.2.kept hg hr⟩
  case hAx => exact fun pre y a' s V V' row hs hg hr => by obtain ⟨b8, h1, h2⟩ := hs; exact ⟨b8, h1, h2.kept hg hr⟩
  case assign =>
    intro l pre y W0 W K hi0 hb01 hi hG hK
    obtain ⟨hj, vr, vw, rfl, hr, hw⟩ := hG
    subst hT
    have HZ14 := Lib.hid (Holds.new W 75 #[.int .i64 0, .int .i64 0, .int .i64 0, .int .i64 0, .string ⟨#[]⟩, .int .i64 0, .slice none 0 0, .slice none 0 0, .int .u64 0])
    have hone : (mvC pre.length x.arcs[pre.length] (toS x.arcs[pre.length]) vr vw).all (·.oneCell') = true := by
      have q1 := hr.2.cell1
      have q2 := hw.2.cell1
      simp [mvC, q1, q2]
      simp [Value.oneCell']
    gi_wp2_with (refine wpListIn_storeB rfl 75 _ _ rfl W.heap.size 0 (mvC pre.length x.arcs[pre.length] (toS x.arcs[pre.length]) vr vw) rfl rfl HZ14.out (Nat.le_of_ble_eq_true rfl) sz_Move hone ?_)
    refine Named.mk (fun W' hW' => ?_)
    have hb' : Below W.heap.size W W' := by rw [hW']; exact Below.far (Below.refl _ _) (Nat.le_refl _) _ _ _
    have h14 : Holds W' W.heap.size 75 (mvC pre.length x.arcs[pre.length] (toS x.arcs[pre.length]) vr vw) := HZ14.out.stored hW' (Nat.le_of_ble_eq_true rfl)
    have hA := RngB.start hi0 hb01 hj hr hw hb' h14
    have hi2 : RngL w.heap.size w9.heap.size w.heap.size (w.heap.size + 1) w most x.arcs pre.length W' := by
      obtain ⟨vo, q1, q2⟩ := hi
      exact ⟨vo, q1.fresh hb', q2⟩
    have hbb : Below w.heap.size W W' := hb'.mono (by obtain ⟨_, q1, _⟩ := hi; have := q1.below.size; exact this)
    have hkk := (Turns.below (lo := w9.heap.size) hb').keeps
    clear hW' h14 HZ14
    gi_wp2
    exact hK _ _ hkk hbb hi2 ⟨W.heap.size, rfl, hA⟩
  case body =>
    rintro l pre y a' W hl2 hrec hi ⟨b8, rfl, hj, vo, vr, vw, hA, hjm, h8, hG⟩ hlen
    subst hT
    obtain ⟨k, hk⟩ : ∃ k, pre.length = k := ⟨_, rfl⟩
    have HKK := Lib.hid hk
    have hkz : k < x.arcs.zipIdx.length := by rw [List.length_zipIdx, ← hk]; exact hj
    obtain ⟨a, haa⟩ : ∃ a, x.arcs[pre.length] = a := ⟨_, rfl⟩
    have hza : x.arcs.zipIdx[k]? = some (a, k) := by
      rw [List.getElem?_eq_getElem hkz]
      subst hk
      rw [zip_at hj, haa]
    have HZA := Lib.hid hza
    rw [haa] at h8 hG
    rw [hk] at hA h8 hG hjm hj
    obtain ⟨S, hS⟩ : ∃ S, toS a = S := ⟨_, rfl⟩
    rw [hS] at h8 hG
    obtain ⟨p1, p2, p3, p4, p5, p6, rfl, rfl⟩ : ∃ p1 p2 p3 p4 p5 p6, vr = .slice p1 p2 p3 ∧ vw = .slice p4 p5 p6 := by
      obtain ⟨r2, s2, q1, ⟨q2, _⟩, q3, _⟩ := hG
      simp only [mvC, List.cons.injEq, true_and, and_true] at q1
      obtain ⟨_, rfl, rfl⟩ := q1
      obtain ⟨b1, d1, e1, _⟩ := q2.form
      obtain ⟨b2, d2, e2, _⟩ := q3.form
      exact ⟨_, _, _, _, _, _, e1, e2⟩
    obtain ⟨fo, hro, hfo⟩ := hA.row
    have hlo : (x.arcs.zipIdx.take k).length = k := by rw [List.length_take]; omega
    obtain ⟨ao, co, hvo, hco, _⟩ := owns_form hro
    rw [hlo] at hvo hro
    subst hvo
    have g5 := hA.most_.cell 0
    have g7 := hA.box.cell 0
    simp only [List.getElem?_cons_zero] at g5 g7
    have HA := Lib.hid hA
    have HG := Lib.hid hG
    have H8 := Lib.hid h8
    have HRO := Lib.hid hro
    have HFO := Lib.hid hfo
    have HLO := Lib.hid hlo
    have HRG := Lib.hid (h8.range (i := 0) (n := 9) (xs := [.int .i64 a.proc, .int .i64 (k : Int), .int .i64 (-1), .int .i64 (-1), .string S, .int .i64 a.bad, .slice p1 p2 p3, .slice p4 p5 p6, .int .u64 (a.turns : Int)]) rfl)
    obtain ⟨i0, z0, hi0, hz0, hz1, hz2, hz3⟩ := info_of info_move
    have HLE : Hid ((pre ++ [y]).length = k + 1) := by show _ = _; rw [List.length_append, hk]; rfl
    clear hA hG h8 hro hfo hlo hza haa hS hk hkz
    by_cases hkm : k = most
    · have d0 : ((k : Int) == (most : Int)) = true := by rw [hkm]; exact beq_self_eq_true _
      have HKM := Lib.hid hkm
      clear hkm
      gi_wp2
      refine ⟨KeepsFrom.refl _ _, rfl, ?_⟩
      have h3 : RngL w.heap.size w9.heap.size w.heap.size (w.heap.size + 1) w most x.arcs k W := ⟨_, HA.out, by omega, by rw [HKM.out]; exact Nat.le_refl _⟩
      exact (congrArg (fun j => RngL w.heap.size w9.heap.size w.heap.size (w.heap.size + 1) w most x.arcs j W) HKM.out).mp h3
    · have d0 : ((k : Int) == (most : Int)) = false := by rw [Bool.eq_false_iff]; intro h3; have h4 := eq_of_beq h3; exact hkm (by omega)
      gi_wp2_with (first | (refine wpListIn_load_mid rfl 75 _ rfl b8 0 rfl ([.int .i64 a.proc, .int .i64 (k : Int), .int .i64 (-1), .int .i64 (-1), .string S, .int .i64 a.bad, .slice p1 p2 p3, .slice p4 p5 p6, .int .u64 (a.turns : Int)]) _ HRG.out Try.underlying75 rfl sz_Move ?_) | (refine stop_call { callee := .builtin .append, args := #[.tmp 17, .tmp 19], argTypes := #[28, 28] } rfl ?_))
      refine Stop.mk ?_
      refine wpListIn_append_own_at _ rfl (.tmp 17) (.tmp 19) _ rfl w9.heap.size 75 i0 z0 9 112 Try.underlying28 hi0 hz0 hz1 hz2 hz3 (by omega) (.slice ao k co) k fo rfl (owns_below HRO.out ((Below.refl _ _).alloc (Nat.le_refl _) _)) ⟨W.heap.size, 0, none⟩ 1 1 ([.int .i64 a.proc, .int .i64 (k : Int), .int .i64 (-1), .int .i64 (-1), .string S, .int .i64 a.bad, .slice p1 p2 p3, .slice p4 p5 p6, .int .u64 (a.turns : Int)]) rfl rfl ?c1 ?c2 ?c3 ?c4 ?c5 ?_
      case c1 => exact fun jj u hu => by rw [Addr.add_lit, Nat.zero_add]; exact ((Holds.new W 75 ([.int .i64 a.proc, .int .i64 (k : Int), .int .i64 (-1), .int .i64 (-1), .string S, .int .i64 a.bad, .slice p1 p2 p3, .slice p4 p5 p6, .int .u64 (a.turns : Int)] : List Value).toArray).cell jj).trans hu
      case c2 => exact List.all_eq_true.1 (oneMovG.one HG.out)
      case c3 => unfold maxLen; omega
      case c4 => omega
      case c5 => have := HA.out.lts; simp; omega
      intro v' W4 hown hgrow _ hblk
      obtain ⟨av4, cv4, rfl, _, _⟩ := owns_form hown
      have h74 : Holds W4 (w.heap.size + 1) 28 [.slice ao k co] := (HA.out.box.alloc _).of_eq (hgrow.block _ (HA.out.box.alloc (.cells ([.int .i64 a.proc, .int .i64 (k : Int), .int .i64 (-1), .int .i64 (-1), .string S, .int .i64 a.bad, .slice p1 p2 p3, .slice p4 p5 p6, .int .u64 (a.turns : Int)] : List Value).toArray 75)).lt fun he => owns_ne_holds HRO.out HA.out.box (by decide) he.symm)
      have H74 := Lib.hid h74
      have HOX := Lib.hid hown
      have HGW := Lib.hid hgrow
      have HBK := Lib.hid hblk
      clear hown hgrow hblk h74 g5 g7 HRG
      gi_wp2_with (refine wpListIn_store1 rfl 28 _ _ rfl (w.heap.size + 1) 0 (.slice av4 (k + 1) cv4) rfl rfl H74.out (Nat.le_of_ble_eq_true rfl) sz_Moves rfl rfl ?_)
      refine Named.mk (fun WZ hWZ => ?_)
      obtain ⟨r1, r2⟩ := HA.out.app (by rw [HLO.out]; exact HRO.out) HFO.out HG.out (by rw [HLO.out]; exact HOX.out) HGW.out HBK.out hWZ
      have HTZ := Lib.hid r2
      have HBZ : Hid (Below w.heap.size W WZ) := below_two HA.out.below r1.below r2.keeps.size
      have HRZ : Hid (RngL w.heap.size w9.heap.size w.heap.size (w.heap.size + 1) w most x.arcs (k + 1) WZ) := by
        refine ⟨.slice av4 (k + 1) cv4, ?_, hj, by omega⟩
        rw [List.take_add_one, HZA.out]
        exact r1
      clear hWZ r1 r2 HOX HGW HBK H74
      gi_wp2
      refine ⟨HTZ.out.keeps, HBZ.out, ?_⟩
      have h3 := HRZ.out
      rw [← HLE.out] at h3
      exact h3
  case done =>
    rintro D xs W hD hlen hi hK
    subst hT
    obtain ⟨vo, hA, hjl, hjm⟩ := hi
    obtain ⟨fo, hro, hfo⟩ := hA.row
    have hlo : (x.arcs.zipIdx.take xs.length).length = xs.length := by rw [List.length_take, List.length_zipIdx]; omega
    rw [hlo] at hro
    have g7 := hA.box.cell 0
    simp only [List.getElem?_cons_zero] at g7
    have HP : Hid (∀ w', Fr (fun q => q = D) W w' → AllPost x.arcs most w (.returned vo) w') := fun w' hf => by
      have hFD : ∀ q, q = D → ∃ o : Obj, W.heap[q]? = some o ∧ o.isCells = false := fun q hq => by rw [hq]; exact ⟨_, hK, rfl⟩
      refine ⟨hA.below.trans (hf.to_below hA.below.size fun q hq e => by omega), vo, xs.length, fo, w9.heap.size, rfl, .inl hlen, hjl, hjm, hbl, ?_, LsF.up (fun _ _ ⟨vr, vw, q1, ⟨q2, q2'⟩, q3, q3'⟩ => ⟨vr, vw, q1, ⟨q2.keptF hf hFD, q2'.keptF hf hFD⟩, q3.keptF hf hFD, q3'.keptF hf hFD⟩) _ hfo⟩
      exact hf.owns hro fun g hg e => by
        obtain ⟨cs, hh⟩ := owns_holds hro hg
        rw [e] at hh
        unfold Holds at hh
        rw [hK] at hh
        cases hh
    have HKD := Lib.hid hK
    clear hA hro hfo hK hlo
    gi_wp2
    exact leaves_marks (by simp) [D] W (by simp) (fun E hE => by rw [List.mem_singleton] at hE; rw [hE]; exact HKD.out) fun w' hf => ⟨vo, results_tmp6 _ _, HP.out w' (hf.mono fun q _ hq => by simpa using hq)⟩
  case stop =>
    rintro D c pre W hD - ⟨rfl, hi⟩ hK
    subst hT
    obtain ⟨vo, hA, hjl, hjm⟩ := hi
    obtain ⟨fo, hro, hfo⟩ := hA.row
    have hlo : (x.arcs.zipIdx.take most).length = most := by rw [List.length_take, List.length_zipIdx]; omega
    rw [hlo] at hro
    have g7 := hA.box.cell 0
    simp only [List.getElem?_cons_zero] at g7
    have HP : Hid (∀ w', Fr (fun q => q = D) W w' → AllPost x.arcs most w (.returned vo) w') := fun w' hf => by
      have hFD : ∀ q, q = D → ∃ o : Obj, W.heap[q]? = some o ∧ o.isCells = false := fun q hq => by rw [hq]; exact ⟨_, hK, rfl⟩
      refine ⟨hA.below.trans (hf.to_below hA.below.size fun q hq e => by omega), vo, most, fo, w9.heap.size, rfl, .inr rfl, hjl, hjm, hbl, ?_, LsF.up (fun _ _ ⟨vr, vw, q1, ⟨q2, q2'⟩, q3, q3'⟩ => ⟨vr, vw, q1, ⟨q2.keptF hf hFD, q2'.keptF hf hFD⟩, q3.keptF hf hFD, q3'.keptF hf hFD⟩) _ hfo⟩
      exact hf.owns hro fun g hg e => by
        obtain ⟨cs, hh⟩ := owns_holds hro hg
        rw [e] at hh
        unfold Holds at hh
        rw [hK] at hh
        cases hh
    have HKD := Lib.hid hK
    clear hA hro hfo hK hlo
    gi_wp2
    exact leaves_marks (by simp) [D] W (by simp) (fun E hE => by rw [List.mem_singleton] at hE; rw [hE]; exact HKD.out) fun w' hf => ⟨vo, results_tmp6 _ _, HP.out w' (hf.mono fun q _ hq => by simpa using hq)⟩
end Go.Proofs.Ytpednhcfkjjcpaa
