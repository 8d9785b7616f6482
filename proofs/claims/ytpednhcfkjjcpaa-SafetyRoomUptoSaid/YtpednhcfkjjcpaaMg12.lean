/- Upu, Uvi, joined. -/
import Derived.Test.YtpednhcfkjjcpaaUsm
import Derived.Deep.DeepCutAuto
section
/- The walk of the search's put. -/
namespace Go.Proofs.Ytpednhcfkjjcpaa.G
open Go.RowKit Go.Maps
set_option linter.unusedVariables false
set_option linter.unusedSimpArgs false

theorem quiet_sameS {P : Program} {f : FuncId} {args : Array Value} {w : World} {n : Nat} {v : Value} (h : Calls P f args (w.drewN n) fun e w' => e = .returned v ∧ w.drewN n = w') : Calls P f args (w.drewN n) fun e w'' => e = .returned v ∧ ∃ m, w'' = w.drewN m :=
  h.mono fun _ _ ⟨he, hm⟩ => ⟨he, n, hm.symm⟩
section
variable {I : Ifc} {vm : Value} {o : POpt} {b0 X Sb mb : Nat} {F P Q : Nat → Prop} {L : List Nat} {vw vp : Value} {w0 w w' : World} {x : Sr}
theorem SrchV.keep (h : SrchV I vm o b0 X Sb mb F P Q L vw vp w0 x w) (hf : Fr (fun q => q = X) w w') : Keep (fun k => P k ∨ Q k) w w' := fun k hk hs => hf.block k hs fun hg => (h.sep k hk).2.2.1 hg
/-- One of the search's numbers turns. -/
theorem SrchV.setLim {v : Int} (h : SrchV I vm o b0 X Sb mb F P Q L vw vp w0 x w) (hW : w' = setR w X 13 [.int .i64 v]) : SrchV I vm o b0 X Sb mb F P Q L vw vp w0 { x with limit := v } w' ∧ Keep (fun k => P k ∨ Q k) w w' := by
  have hf : Fr (fun q => q = X) w w' := by rw [hW]; exact Fr.setRX _ _ 13 _
  exact ⟨h.rebox hf (h.box.stored hW (Nat.le_of_ble_eq_true rfl)) rfl rfl rfl, h.keep hf⟩
set_option maxHeartbeats 1000000 in
theorem put_oldS {s : ByteArray} (h : SrchV I vm o b0 X Sb mb F P Q L vw vp w0 x w) (hl : x.sts.length ≤ 1000000) (hs : s.size ≤ 1048576) (hin : s ∈ x.sts) : Calls Try.prog 16 #[.pointer (some ⟨X, 0, none⟩), .string s] w fun e w' => e = .returned (.tuple #[.int .i64 (x.sts.idxOf s : Int), .bool false, .bool true]) ∧ Below w.heap.size w w' := by
  have hi : x.sts.idxOf s < x.sts.length := List.idxOf_lt_length_of_mem hin
  have he : x.sts[x.sts.idxOf s] = s := List.getElem_idxOf hi
  have HP := Lib.hid (St.put_old_at h.met hl s (by unfold maxLen; omega) _ hi he)
  obtain ⟨i, hii⟩ : ∃ i, x.sts.idxOf s = i := ⟨_, rfl⟩
  rw [hii] at HP ⊢
  have c9 := h.box.cell 9
  simp only [srC, List.getElem?_cons_zero, List.getElem?_cons_succ] at c9
  clear h hi he hii hin
  go_enter Try.func16, Try.ntmps16
  go_wp2_with (fail)
  refine HP.out.mono ?_
  rintro e w1 ⟨rfl, hb1⟩
  have HB1 := Lib.hid hb1
  clear hb1 HP
  go_wp2
  go_ret3
  exact ⟨rfl, HB1.out⟩
set_option maxHeartbeats 1000000 in
theorem put_newS {s : ByteArray} (h : SrchV I vm o b0 X Sb mb F P Q L vw vp w0 x w) (hl : x.sts.length ≤ 1000000) (hs : s.size ≤ 1048576) (hno : s ∉ x.sts) (h1 : (x.sts.length : Int) < o.states) (h2 : (s.size : Int) ≤ o.bytes - totB x.sts) : Calls Try.prog 16 #[.pointer (some ⟨X, 0, none⟩), .string s] w fun e w' => e = .returned (.tuple #[.int .i64 (x.sts.length : Int), .bool true, .bool true]) ∧ Keep (fun k => P k ∨ Q k) w w' ∧ ∃ F', SrchV I vm o b0 X Sb mb F' P Q L vw vp w0 { x with sts := x.sts ++ [s] } w' := by
  have HP := Lib.hid (St.put_new_at h.met hl s (by unfold maxLen; omega) hno h1 h2)
  have H := Lib.hid h
  have c9 := h.box.cell 9
  simp only [srC, List.getElem?_cons_zero, List.getElem?_cons_succ] at c9
  obtain ⟨N, hN⟩ : ∃ N, x.sts.length = N := ⟨_, rfl⟩
  have HN := Lib.hid hN
  rw [hN]
  clear h h1 h2 hno hN
  go_enter Try.func16, Try.ntmps16
  go_wp2_with (fail)
  refine HP.out.mono ?_
  rintro e w1 ⟨rfl, F', hm, hf, hF⟩
  have HK : Hid (Keep (fun k => P k ∨ Q k) w w1) := fun k hk hs => hf.block k hs (H.out.sep k hk).2.1
  have HX := Lib.hid (H.out.stored hm hf hF)
  rw [HN.out]
  clear hm hf hF HP c9
  go_wp2
  go_ret3
  exact ⟨rfl, HK.out, F', HX.out⟩
set_option maxHeartbeats 2000000 in
theorem put_fullS {s : ByteArray} (h : SrchV I vm o b0 X Sb mb F P Q L vw vp w0 x w) (hl : x.sts.length ≤ 1000000) (hs : s.size ≤ 1048576) (hno : s ∉ x.sts) (why : Int) (hw : (why = 104 ∧ o.states ≤ x.sts.length) ∨ (why = 105 ∧ ¬ o.states ≤ x.sts.length ∧ o.bytes - totB x.sts < s.size)) : Calls Try.prog 16 #[.pointer (some ⟨X, 0, none⟩), .string s] w fun e w' => e = .returned (.tuple #[.int .i64 0, .bool false, .bool false]) ∧ Keep (fun k => P k ∨ Q k) w w' ∧ SrchV I vm o b0 X Sb mb F P Q L vw vp w0 { x with limit := why } w' := by
  have HP := Lib.hid (St.put_full_at h.met hl s (by unfold maxLen; omega) hno (by
    rcases hw with ⟨_, h1⟩ | ⟨_, _, h1⟩
    · exact .inl h1
    · exact .inr h1))
  have H := Lib.hid h
  have c9 := h.box.cell 9
  simp only [srC, List.getElem?_cons_zero, List.getElem?_cons_succ] at c9
  clear h hno
  go_enter Try.func16, Try.ntmps16
  go_wp2_with (fail)
  refine HP.out.mono ?_
  rintro e w1 ⟨rfl, hb1⟩
  have h1 := H.out.fresh hb1
  have H1 := Lib.hid h1
  have HB1 := Lib.hid h1.box
  have HK1 : Hid (Keep (fun k => P k ∨ Q k) w w1) := Keep.below hb1
  have HS1 := Lib.hid hb1.size
  clear c9 hb1 HP h1
  go_wp2_with (refine wpList_store1 rfl 3 _ _ rfl X 13 (.int .i64 105) rfl rfl HB1.out (Nat.le_of_ble_eq_true rfl) sz_Int rfl rfl ?_)
  refine Named.mk (fun w2 hW2 => ?_)
  obtain ⟨h2, k2⟩ := H1.out.setLim hW2
  have HK2 : Hid (Keep (fun k => P k ∨ Q k) w w2) := HK1.out.trans k2 HS1.out
  have HS2 : Hid (w.heap.size ≤ w2.heap.size) := by show _ ≤ _; rw [hW2, setR_size]; exact HS1.out
  have H2 := Lib.hid h2
  have d9 := h2.box.cell 9
  have d3 := h2.box.cell 3
  simp only [srC, List.getElem?_cons_zero, List.getElem?_cons_succ] at d9 d3
  have hlen : (x.sts.length : Int) = x.sts.length := rfl
  obtain ⟨N, hN⟩ : ∃ N, x.sts.length = N := ⟨_, rfl⟩
  have HN : Hid (({ x with limit := 105 } : Sr).sts.length = N) := hN
  have HLEN : Hid (∀ n, Calls Try.prog 34 #[.pointer (some ⟨Sb, 0, none⟩)] (w2.drewN n) fun e w' => e = .returned (.int .i64 (N : Int)) ∧ w2.drewN n = w') := fun n => by
    have h3 := St.len_at (H2.out.met.drewN n)
    rw [HN.out] at h3
    exact h3
  rw [hN] at hw
  clear hW2 h2 k2 H1 HB1 HK1 HS1 hN hlen
  rcases hw with ⟨rfl, h3⟩ | ⟨rfl, h3, _⟩
  · go_wp2_with (fail)
    go_quiet ((go_at_call 34; exact quiet_sameS (HLEN.out _)))
    have h4 := H2.out.fresh (below_drewN (Below.refl _ _) (Nat.le_refl _) nq)
    have H4 := Lib.hid h4
    have HB4 := Lib.hid h4.box
    have HK4 : Hid (Keep (fun k => P k ∨ Q k) w (w2.drewN nq)) := fun k hk hs => HK2.out k hk hs
    obtain ⟨w4, hw4⟩ : ∃ W, w2.drewN nq = W := ⟨_, rfl⟩
    have HS4 : Hid (w.heap.size ≤ w4.heap.size) := by show _ ≤ _; rw [← hw4]; exact HS2.out
    rw [hw4] at H4 HB4 HK4 ⊢
    clear h4 H2 HLEN d9 d3 hw4
    go_wp2_with (refine wpList_store1 rfl 3 _ _ rfl X 13 (.int .i64 104) rfl rfl HB4.out (Nat.le_of_ble_eq_true rfl) sz_Int rfl rfl ?_)
    refine Named.mk (fun w5 hW5 => ?_)
    obtain ⟨h5, k5⟩ := H4.out.setLim hW5
    have HK5 : Hid (Keep (fun k => P k ∨ Q k) w w5) := HK4.out.trans k5 HS4.out
    have H5 := Lib.hid h5
    clear hW5 h5 k5 H4 HB4
    go_wp2
    go_ret3
    exact ⟨rfl, HK5.out, H5.out⟩
  · go_wp2_with (fail)
    go_quiet ((go_at_call 34; exact quiet_sameS (HLEN.out _)))
    have h4 := H2.out.fresh (below_drewN (Below.refl _ _) (Nat.le_refl _) nq)
    have H4 := Lib.hid h4
    have HK4 : Hid (Keep (fun k => P k ∨ Q k) w (w2.drewN nq)) := fun k hk hs => HK2.out k hk hs
    clear h4 H2 HLEN d9 d3
    go_wp2
    go_ret3
    exact ⟨rfl, HK4.out, H4.out⟩
end
end Go.Proofs.Ytpednhcfkjjcpaa.G
end
section
/- The walks of the search's violated and ended. (printed by mkuvi.py) -/
namespace Go.Proofs.Ytpednhcfkjjcpaa
open Go.RowKit
set_option linter.unusedVariables false
set_option linter.unusedSimpArgs false
def cloneMovesPost (w : World) (n : Nat) (f : List Value) (e : Ending) (w' : World) : Prop := Below w.heap.size w w' ∧ ∃ v, e = .returned v ∧ (v = .slice none 0 0 ∨ w'.ownsRow w.heap.size 75 9 v n f) ∧ RowL (From w.heap.size) w' 9 v n f
set_option maxHeartbeats 1000000 in
set_option maxRecDepth 100000 in
theorem cloneMovesFn {P : Nat → Prop} {w : World} {v : Value} {n : Nat} {f : List Value} (h : RowL P w 9 v n f) (hone : ∀ u ∈ f, u.oneCell' = true) (hn : n ≤ 2000000) : Calls Try.prog 36 #[v] w (cloneMovesPost w n f) := by
  obtain ⟨i0, z0, hi0, hz0, hz1, hz2, hz3⟩ := info_of info_move
  have H := Lib.hid h
  obtain ⟨a, c, rfl, hc1, hc2, hc3⟩ := h.form
  cases a with
  | none =>
    obtain rfl := hc3 rfl
    obtain rfl : n = 0 := by omega
    have he := run_eq_nil (P := Try.prog) w 28 75 none 0 0 Try.underlying28
    clear h
    go_enter Try.func36, Try.ntmps36
    go_wp2
    go_ret
    exact ⟨Below.refl _ _, _, rfl, .inl rfl, by
      have hl : f.length = 0 := by obtain ⟨_, _, _, _, _, h4, _⟩ := H.out; simpa using h4
      rw [List.eq_nil_of_length_eq_zero hl]; exact RowL.nil _ _ _⟩
  | some ad =>
    have H1 := Lib.hid hone
    have HN := Lib.hid hn
    have HW : Hid ((w.alloc (.cells #[] 75)).ownsRow w.heap.size 75 9 (.slice (some ⟨w.heap.size, 0, none⟩) 0 0) 0 []) := by
      refine ⟨by simp, .inr ⟨w.heap.size, 0, #[], rfl, Nat.le_refl _, ?_, Nat.le_refl _, by unfold maxLen; omega, by simp, by simp⟩⟩
      exact Holds.new w 75 #[]
    have HH := Lib.hid (H.out.up (Keep.below ((Below.refl w.heap.size w).alloc (Nat.le_refl _) (.cells #[] 75))))
    have he := run_eq_nil (P := Try.prog) w 28 75 (some ad) n c Try.underlying28
    clear h hone hn hc1 hc2 hc3
    go_enter Try.func36, Try.ntmps36
    go_wp2_with (at_builtin; refine wpList_append_row rfl (.tmp 5) (.tmp 6) _ rfl w.heap.size 75 i0 z0 9 112 Try.underlying28 hi0 hz0 hz1 hz2 hz3 (by omega) (.slice (some ⟨w.heap.size, 0, none⟩) 0 0) 0 [] rfl HW.out _ n f rfl HH.out H1.out (by have := HN.out; unfold maxLen; omega) (by have := HN.out; omega) (by simp) ?_)
    intro v' w2 hown hgr hat
    have hB : Below w.heap.size w w2 := ((Below.refl w.heap.size w).alloc (Nat.le_refl _) (.cells #[] 75)).grown hgr (by simp) fun k hk => by simp [Value.ownBlock] at hk; omega
    have HF : Hid (cloneMovesPost w n f (.returned v') w2) := by
      refine ⟨hB, v', rfl, .inr ?_, RowL.of_owns (base := w.heap.size) (e := 75) ?_ fun _ h => h⟩
      · simpa using hown
      · simpa using hown
    clear hB hown hgr hat HW HH
    go_wp2
    go_ret
    exact HF.out
end Go.Proofs.Ytpednhcfkjjcpaa
namespace Go.Proofs.Ytpednhcfkjjcpaa.G
open Go.RowKit Go.Maps
set_option linter.unusedVariables false
set_option linter.unusedSimpArgs false

def FoundV (P : Nat → Prop) (w : World) (v : Value) (r : PFound) : Prop := ∃ vp, v = .agg #[.int .i64 r.verdict, .int .i64 r.why, vp, .int .i64 (-1), .int .i64 (r.states : Int), .int .i64 (r.moves : Int), .int .i64 (r.deep : Int)] ∧ MvsV P w vp r.path
theorem sz_Found : (Try.prog.info? 30).map (·.size) = some 7 := by kernel_rfl
theorem mvs_one {P : Nat → Prop} {w : World} {l : List PMove} {f : List Value} (h : LsF MvF P w l f) : ∀ u ∈ f, u.oneCell' = true := by
  induction l generalizing f with
  | nil => intro u hu; have h : f = [] := h; subst h; cases hu
  | cons a l ih =>
    obtain ⟨c, g, rfl, h1, h2⟩ := h
    intro u hu
    rcases List.mem_append.1 hu with hu | hu
    · exact List.all_eq_true.1 (oneMv.one h1) u hu
    · exact ih h2 u hu
section
variable {I : Ifc} {vm : Value} {o : POpt} {b0 X Sb mb : Nat} {F P Q : Nat → Prop} {L : List Nat} {vw vp : Value} {w0 w w' : World} {x : Sr}
def TellPost (b0 : Nat) (P Q : Nat → Prop) (w0 w : World) (r : PFound) (e : Ending) (w' : World) : Prop := Below b0 w0 w' ∧ w.heap.size ≤ w'.heap.size ∧ Keep (fun k => P k ∨ Q k) w w' ∧ ∃ v, e = .returned v ∧ FoundV (fun k => P k ∨ w.heap.size < k) w' v r
set_option maxHeartbeats 4000000 in
set_option maxRecDepth 100000 in
theorem violFn {why : Int} (h : SrchV I vm o b0 X Sb mb F P Q L vw vp w0 x w) (hl : x.path.length ≤ 2000000) : Calls Try.prog 19 #[.pointer (some ⟨X, 0, none⟩), .int .i64 why] w (TellPost b0 P Q w0 w (viol x why)) := by
  obtain ⟨w1, hw1⟩ : ∃ W, W = w.alloc (.cells #[.int .i64 0, .int .i64 0, .slice none 0 0, .int .i64 0, .int .i64 0, .int .i64 0, .int .i64 0] 30) := ⟨_, rfl⟩
  have hb1 : Below w.heap.size w w1 := by rw [hw1]; exact (Below.refl _ _).alloc (Nat.le_refl _) _
  have sz1 : w1.heap.size = w.heap.size + 1 := by rw [hw1]; simp
  have h4 : Holds w1 w.heap.size 30 [.int .i64 0, .int .i64 0, .slice none 0 0, .int .i64 0, .int .i64 0, .int .i64 0, .int .i64 0] := by rw [hw1]; exact Holds.new w 30 #[.int .i64 0, .int .i64 0, .slice none 0 0, .int .i64 0, .int .i64 0, .int .i64 0, .int .i64 0]
  have h1 := h.fresh hb1
  obtain ⟨fp, p1, p2⟩ := h1.path
  have hrow : RowL (fun _ => True) w1 9 vp x.path.length fp := RowL.of_owns p1 fun _ _ => trivial
  have HC := Lib.hid (cloneMovesFn hrow (mvs_one p2) hl)
  have c12 := h1.box.cell 12
  simp only [srC, List.getElem?_cons_zero, List.getElem?_cons_succ] at c12
  have HM := Lib.hid p2
  have HB := Lib.hid h1.box
  have H4 := Lib.hid h4
  have HMET := Lib.hid h1.met
  have HW1 : Hid (Below b0 w0 w1 ∧ w1.heap.size = w.heap.size + 1 ∧ b0 ≤ w.heap.size) := ⟨h1.below, sz1, h.size⟩
  have HSEP := Lib.hid h.sep
  have HXL : Hid (X < w.heap.size) := h.box.lt
  have HFX := Lib.hid h.dis.1
  have HLO := Lib.hid h.lo.1
  have HK1 : Hid (Keep (fun k => P k ∨ Q k) w w1) := Keep.below hb1
  have HW := Lib.hid hw1
  clear h hb1 sz1 h4 h1 p1 p2 hrow hl hw1
  go_enter Try.func19, Try.ntmps19
  go_upto_region 1 with (fail)
  rw [← HW.out]
  clear HW
  obtain ⟨b4, hb4⟩ : ∃ b, w.heap.size = b := ⟨_, rfl⟩
  have HB4 := Lib.hid hb4
  rw [hb4] at H4 HW1 HXL ⊢
  go_wp2_with (fail)
  refine HC.out.mono ?_
  rintro e w2 ⟨hb2, vq, rfl, -, hq⟩
  obtain ⟨aq, cq, rfl, _⟩ := hq.form
  have HB2 := Lib.hid (HB.out.belowAll hb2)
  have H42 := Lib.hid (H4.out.belowAll hb2)
  have HM2 := Lib.hid (LsF.up (fun _ _ => oneMv.up (Keep.below hb2)) _ HM.out)
  have HQ2 := Lib.hid hq
  have HMET2 := Lib.hid (HMET.out.below hb2)
  have HW2 := Lib.hid hb2
  clear hb2 hq HC HB H4 HM HMET c12 hb4
  go_wp2_with (refine wpList_store1 rfl 3 _ _ rfl X 14 (.int .i64 2) rfl rfl HB2.out (Nat.le_of_ble_eq_true rfl) sz_Int rfl rfl ?_)
  refine Named.mk (fun w3 hW3 => ?_)
  have HB3 := Lib.hid (HB2.out.stored hW3 (Nat.le_of_ble_eq_true rfl))
  have hf3 : Fr (fun q => q = X) w2 w3 := by rw [hW3]; exact Fr.setRX _ _ 14 _
  clear hW3
  go_wp2_with (refine wpList_store1 rfl 3 _ _ rfl X 15 (.int .i64 why) rfl rfl HB3.out (Nat.le_of_ble_eq_true rfl) sz_Int rfl rfl ?_)
  refine Named.mk (fun w4 hW4 => ?_)
  have HB4' := Lib.hid (HB3.out.stored hW4 (Nat.le_of_ble_eq_true rfl))
  have hf4 : Fr (fun q => q = X) w2 w4 := hf3.trans (by rw [hW4]; exact Fr.setRX _ _ 15 _) fun _ _ h => h
  clear hW4 hf3 HB3
  go_wp2_with (refine wpList_store1 rfl 28 _ _ rfl X 16 (.slice aq x.path.length cq) rfl rfl HB4'.out (Nat.le_of_ble_eq_true rfl) sz_Moves rfl rfl ?_)
  refine Named.mk (fun w5 hW5 => ?_)
  have HB5 := Lib.hid (HB4'.out.stored hW5 (Nat.le_of_ble_eq_true rfl))
  have hf5 : Fr (fun q => q = X) w2 w5 := hf4.trans (by rw [hW5]; exact Fr.setRX _ _ 16 _) fun _ _ h => h
  have hmet5 := HMET2.out.fr hf5 fun k hk e => HFX.out (by have e : k = X := e; rw [← e]; exact hk)
  have HLEN := Lib.hid (St.len_at hmet5)
  have c9 := HB5.out.cell 9
  simp only [srC, List.take_succ_cons, List.take_zero, List.drop_succ_cons, List.drop_zero, List.cons_append, List.nil_append, List.getElem?_cons_zero, List.getElem?_cons_succ] at c9
  have HF5 := Lib.hid hf5
  clear hW5 hf4 HB4' hf5 hmet5 HMET2
  go_wp2_with (fail)
  refine HLEN.out.mono ?_
  rintro e w6 ⟨rfl, rfl⟩
  clear c9
  go_wp2_with (refine wpList_store1 rfl 3 _ _ rfl X 18 (.int .i64 (x.sts.length : Int)) rfl rfl HB5.out (Nat.le_of_ble_eq_true rfl) sz_Int rfl rfl ?_)
  refine Named.mk (fun w7 hW7 => ?_)
  have hb7 := HB5.out.stored hW7 (Nat.le_of_ble_eq_true rfl)
  have HF7 : Hid (Fr (fun q => q = X) w2 w7) := HF5.out.trans (by rw [hW7]; exact Fr.setRX _ _ 18 _) fun _ _ h => h
  have HRG := Lib.hid (hb7.range (i := 14) (n := 7) (xs := [.int .i64 2, .int .i64 why, .slice aq x.path.length cq, .int .i64 (-1), .int .i64 (x.sts.length : Int), .int .i64 (x.moves : Int), .int .i64 (x.deep : Int)]) rfl)
  have H47 := Lib.hid (HF7.out.holds H42.out (by have := HXL.out; omega))
  clear hW7 hb7 HB5 HF5 HLEN HB2 H42
  go_wp2_with (first | (refine wpList_load_mid rfl 30 _ rfl X 14 rfl [.int .i64 2, .int .i64 why, .slice aq x.path.length cq, .int .i64 (-1), .int .i64 (x.sts.length : Int), .int .i64 (x.moves : Int), .int .i64 (x.deep : Int)] _ HRG.out Try.underlying30 rfl sz_Found ?_) | (refine wpList_storeB rfl 30 _ _ rfl b4 0 [.int .i64 2, .int .i64 why, .slice aq x.path.length cq, .int .i64 (-1), .int .i64 (x.sts.length : Int), .int .i64 (x.moves : Int), .int .i64 (x.deep : Int)] rfl rfl H47.out (Nat.le_of_ble_eq_true rfl) sz_Found rfl ?_))
  refine Named.mk (fun w8 hW8 => ?_)
  have HB8 := Lib.hid (H47.out.stored hW8 (Nat.le_of_ble_eq_true rfl))
  have hf8 : Fr (fun q => q = X ∨ q = b4) w2 w8 := (HF7.out.mono fun _ _ h => .inl h).trans (by rw [hW8]; exact Fr.setRX _ _ 0 _) fun _ _ h => .inr h
  have HF8 := Lib.hid hf8
  clear hW8 hf8 HRG H47 HF7
  go_wp2
  refine bodyPost_ret (outBox Try.results19 HB8.out rfl _ Try.underlying30 rfl sz_Found) rfl ?_
  obtain ⟨q1, q2, q3⟩ := HW1.out
  have hxl := HXL.out
  have hb4 := HB4.out
  have hlo := HLO.out
  have hk8 : Keep (fun k => k ≠ X ∧ k ≠ b4) w2 w8 := fun k hk hs => HF8.out.block k hs fun e => e.elim hk.1 hk.2
  have hk2 : Keep (fun k => P k ∨ Q k) w w8 := HK1.out.trans (Keep.trans (Keep.below HW2.out) (hk8.imp fun k hk => ⟨(HSEP.out k hk).2.2.1, by have := (HSEP.out k hk).1; omega⟩) HW2.out.size) (by omega)
  refine ⟨?_, ?_, hk2, _, rfl, _, rfl, fp, ?_, ?_⟩
  · have h2 : Below b0 w0 w2 := q1.trans (HW2.out.mono (by omega))
    refine h2.trans (HF8.out.to_below (by have := HW2.out.size; omega) fun k hk e => ?_)
    rcases e with e | e
    · omega
    · omega
  · have := HW2.out.size
    have := HF8.out.size
    omega
  · refine (HQ2.out.up (w' := w8) fun k hk hs => hk8 k ⟨by have hk : w1.heap.size ≤ k := hk; omega, by have hk : w1.heap.size ≤ k := hk; omega⟩ hs).mono fun k hk _ => .inr (by have hk : w1.heap.size ≤ k := hk; omega)
  · exact LsF.mono (fun _ _ => MvF.mono fun k hk _ => .inl hk) _ (LsF.up (fun _ _ => oneMv.up fun k hk hs => hk8 k ⟨(HSEP.out k (.inl hk)).2.2.1, by have := (HSEP.out k (.inl hk)).1; omega⟩ hs) _ HM2.out)
end
end Go.Proofs.Ytpednhcfkjjcpaa.G
end
