/- The walk of threads.Here. -/
import Derived.Test.YtcopoaaofjeklaaAhr
import Derived.Test.YtcopoaaofjeklaaTlk
namespace Go.Proofs.Ytcopoaaofjeklaa.G
open Go.RowKit
set_option linter.unusedVariables false
set_option linter.unusedSimpArgs false

/-- What is read ahead of a call, a box that is written behind it. -/
structure HeS (w2 : World) (b6 b3 : Nat) (c3 : List Value) (g j : Nat) (v : Value) (W : World) : Prop where
  fr : Fr (fun q => q = b6) w2 W
  h3 : Holds W b3 66 c3
  cell : W.cell? ⟨g, j, none⟩ = some v
  h6 : ∃ c4 : List Value, c4.length = 3 ∧ Holds W b6 25 c4
  ne : b3 ≠ b6 ∧ g ≠ b6
theorem cell_fr {F : Nat → Prop} {W W' : World} {g j : Nat} {v : Value} (hf : Fr F W W') (h : W.cell? ⟨g, j, none⟩ = some v) (hg : ¬ F g) : W'.cell? ⟨g, j, none⟩ = some v := by
  rw [← h]
  unfold World.cell?
  simp only
  rw [hf.block g (World.block_lt_of_cell? W _ h) hg]
theorem HeS.fresh {w2 W W' : World} {b6 b3 g j : Nat} {c3 : List Value} {v : Value} (h : HeS w2 b6 b3 c3 g j v W) (hb : Below W.heap.size W W') : HeS w2 b6 b3 c3 g j v W' := by
  obtain ⟨c4, hl, h4⟩ := h.h6
  have hf := Fr.of_below hb (fun q => q = b6)
  exact ⟨h.fr.trans hf fun _ _ h => h, h.h3.belowAll hb, cell_fr hf h.cell h.ne.2, ⟨c4, hl, h4.belowAll hb⟩, h.ne⟩
theorem HeS.put {w2 W W' : World} {b6 b3 g j : Nat} {c3 xs : List Value} {v : Value} (h : HeS w2 b6 b3 c3 g j v W) (hW : W' = setR W b6 0 xs) (hx : xs.length = 3) : HeS w2 b6 b3 c3 g j v W' ∧ Holds W' b6 25 xs := by
  obtain ⟨c4, hl, h4⟩ := h.h6
  have hf : Fr (fun q => q = b6) W W' := by rw [hW]; exact Fr.setRX _ _ 0 _
  have h5 := h4.stored hW (by omega)
  rw [List.take_zero, List.nil_append, List.drop_of_length_le (by omega), List.append_nil] at h5
  exact ⟨⟨h.fr.trans hf fun _ _ h => h, hf.holds h.h3 h.ne.1, cell_fr hf h.cell h.ne.2, ⟨xs, hx, h5⟩, h.ne⟩, h5⟩
theorem box_cells {W : World} {b : Nat} (h : ∃ c4 : List Value, c4.length = 3 ∧ Holds W b 25 c4) : W.cell? ⟨b, 0, none⟩ = some ((W.cell? ⟨b, 0, none⟩).getD undef) ∧ W.cell? ⟨b, 1, none⟩ = some ((W.cell? ⟨b, 1, none⟩).getD undef) ∧ W.cell? ⟨b, 2, none⟩ = some ((W.cell? ⟨b, 2, none⟩).getD undef) ∧ W.frozen? ⟨b, 0, none⟩ = false ∧ W.frozen? ⟨b, 1, none⟩ = false ∧ W.frozen? ⟨b, 2, none⟩ = false := by
  obtain ⟨c4, hl, h4⟩ := h
  obtain ⟨p, q, r, rfl⟩ : ∃ a b c, c4 = [a, b, c] := by match c4, hl with | [a, b, c], _ => exact ⟨a, b, c, rfl⟩
  have e0 := h4.cell 0
  have e1 := h4.cell 1
  have e2 := h4.cell 2
  simp only [List.getElem?_cons_zero, List.getElem?_cons_succ] at e0 e1 e2
  exact ⟨by rw [e0]; rfl, by rw [e1]; rfl, by rw [e2]; rfl, h4.free 0, h4.free 1, h4.free 2⟩
theorem there_zero {t : PThr} {s : ByteArray} {p : Int} (h : tstate t s = none ∨ p < 0 ∨ (t.procs.length : Int) ≤ p) : there t s p = zeroF := by
  unfold there
  split
  · rename_i vs ns e
    rcases h with h | h | h
    · rw [h] at e; cases e
    · rw [if_pos h]
    · split
      · rfl
      · rw [List.getElem?_eq_none (by omega)]
  · rfl
theorem there_some {t : PThr} {s : ByteArray} {vs ns : List Nat} {p : Nat} (h : tstate t s = some (vs, ns)) (hp : p < t.procs.length) (hn : p < ns.length) : there t s (p : Int) = hereF t t.procs[p] ns[p] := by
  unfold there
  rw [h]
  simp only
  rw [if_neg (by omega), Int.toNat_natCast, List.getElem?_eq_getElem hp, List.getElem?_eq_getElem hn]
set_option maxHeartbeats 4000000 in
set_option maxRecDepth 100000 in
theorem hereAtFn {P : Nat → Prop} {w : World} {t : PThr} {vi vp vq : Value} {s : ByteArray} {p : Int} (h : ThrV P w vi vp vq t) (ht : OkT t) (hs : s.size ≤ 1048576) : Calls Try.prog 50 #[.agg #[vi, vp, vq], .string s, .int .i64 p] w (FootP (there t s p) w) := by
  have h := h.mono (Q := fun q => q < w.heap.size) fun q _ hq => hq
  obtain ⟨w1, hw1⟩ : ∃ W, W = (w.alloc (.cells #[vi, vp, vq] 66)).alloc (.cells #[.slice none 0 0, .slice none 0 0, .int .u64 0] 25) := ⟨_, rfl⟩
  have hb1 : Below w.heap.size w w1 := by rw [hw1]; exact ((Below.refl _ _).alloc (Nat.le_refl _) _).alloc (by simp) _
  have h3 : Holds w1 w.heap.size 66 [vi, vp, vq] := by rw [hw1]; exact (Holds.new w 66 #[vi, vp, vq]).alloc _
  have h6 : Holds w1 (w.heap.size + 1) 25 [.slice none 0 0, .slice none 0 0, .int .u64 0] := by
    have h := Holds.new (w.alloc (.cells #[vi, vp, vq] 66)) 25 #[.slice none 0 0, .slice none 0 0, .int .u64 0]
    simp only [World.size_alloc] at h
    rw [hw1]; exact h
  have hv1 := h.up (Keep.below hb1)
  have HST := Lib.hid (stateFn hv1 ht hs)
  have HV1 := Lib.hid hv1
  have H3 := Lib.hid h3
  have H6 := Lib.hid h6
  have HL6 := Lib.hid h6.lt
  have HB1 := Lib.hid hb1
  have HT := Lib.hid ht
  have HRG := Lib.hid (h3.range (i := 0) (n := 3) (xs := [vi, vp, vq]) rfl)
  have c1 : vi.oneCell' = true := h.init.cell1
  have c2 : vp.oneCell' = true := by obtain ⟨_, k, _⟩ := h.procs; exact k.cell1
  have c3 : vq.oneCell' = true := by obtain ⟨_, k, _⟩ := h.props; exact k.cell1
  clear h ht hs hb1 h3 h6 hv1
  go_enter Try.func50, Try.ntmps50
  go_upto_region 1 with (fail)
  rw [← hw1]
  clear hw1
  obtain ⟨b3, hb3⟩ : ∃ b, w.heap.size = b := ⟨_, rfl⟩
  have HBB : Hid (w.heap.size = b3) := hb3
  rw [hb3] at H3 H6 HRG HL6 ⊢
  clear hb3
  go_wp2_with (refine wpList_load_mid rfl 66 _ rfl b3 0 rfl [vi, vp, vq] _ HRG.out Try.underlying66 rfl sz_Thr ?_)
  refine HST.out.mono ?_
  rintro e w2 ⟨hb2, hp⟩
  have HB2 := Lib.hid hb2
  have HB02 := Lib.hid (HB1.out.trans (hb2.mono HB1.out.size))
  have H62 := Lib.hid (H6.out.belowAll hb2)
  have H32 := Lib.hid (H3.out.belowAll hb2)
  have HV2 := Lib.hid (HV1.out.up (Keep.below hb2))
  clear HST HRG hb2 H6 H3 HV1
  cases hts : tstate t s with
  | none =>
    rw [hts] at hp
    obtain ⟨v1, v2, rfl⟩ := hp
    have HTH := Lib.hid (there_zero (p := p) (.inl hts))
    go_wp2_with (refine wpList_storeB rfl 25 _ _ rfl (b3 + 1) 0 [.slice none 0 0, .slice none 0 0, .int .u64 0] rfl rfl H62.out (Nat.le_of_ble_eq_true rfl) foot_len rfl ?_)
    refine Named.mk (fun W3 hW3 => ?_)
    have hf3 : Fr (fun q => q = b3 + 1) w2 W3 := by rw [hW3]; exact Fr.setRX _ _ 0 _
    have H63 : Hid (Holds W3 (b3 + 1) 25 [.slice none 0 0, .slice none 0 0, .int .u64 0]) := H62.out.stored hW3 (Nat.le_of_ble_eq_true rfl)
    have HBZ : Hid (Below w.heap.size w W3) := HB02.out.trans (hf3.to_below HB02.out.size fun q hq e => by have := HBB.out; have e : q = b3 + 1 := e; omega)
    clear hW3 hf3
    go_wp2
    refine bodyPost_ret (outBox Try.results50 H63.out rfl _ Try.underlying25 rfl foot_len) rfl ?_
    exact ⟨HBZ.out, _, rfl, by rw [HTH.out]; exact ⟨_, _, rfl, RowL.nil _ _ _, RowL.nil _ _ _⟩⟩
  | some r =>
    obtain ⟨vs, ns⟩ := r
    rw [hts] at hp
    obtain ⟨v1, v2, rfl, hr1, hr2⟩ := hp
    obtain ⟨k1, k2, k3, k4, k5⟩ := tstate_of hts
    have hr1 := hr1.row
    have hr2 := hr2.row
    obtain ⟨a1, z1, rfl, _, _, _⟩ := hr1.form
    obtain ⟨a2, z2, rfl, _, _, _⟩ := hr2.form
    have HR2 := Lib.hid hr2
    obtain ⟨np, hnp⟩ : ∃ n, ns.length = n := ⟨_, rfl⟩
    obtain ⟨ni, hni⟩ : ∃ n, vs.length = n := ⟨_, rfl⟩
    rw [hnp, hni]
    have HNP := Lib.hid hnp
    have HNT : Hid (t.procs.length = np) := by show _ = _; rw [← k2]; exact hnp
    have HTS := Lib.hid hts
    have HK4 := Lib.hid k4
    clear hr1 hr2 k1 k2 k3 k4 k5 hni hnp hts
    by_cases hp0 : p < 0
    · have d1 : decide (p < 0) = true := decide_eq_true hp0
      have HTH := Lib.hid (there_zero (t := t) (s := s) (p := p) (.inr (.inl hp0)))
      clear hp0
      go_wp2_with (refine wpList_storeB rfl 25 _ _ rfl (b3 + 1) 0 [.slice none 0 0, .slice none 0 0, .int .u64 0] rfl rfl H62.out (Nat.le_of_ble_eq_true rfl) foot_len rfl ?_)
      refine Named.mk (fun W3 hW3 => ?_)
      have hf3 : Fr (fun q => q = b3 + 1) w2 W3 := by rw [hW3]; exact Fr.setRX _ _ 0 _
      have H63 : Hid (Holds W3 (b3 + 1) 25 [.slice none 0 0, .slice none 0 0, .int .u64 0]) := H62.out.stored hW3 (Nat.le_of_ble_eq_true rfl)
      have HBZ : Hid (Below w.heap.size w W3) := HB02.out.trans (hf3.to_below HB02.out.size fun q hq e => by have := HBB.out; have e : q = b3 + 1 := e; omega)
      clear hW3 hf3
      go_wp2
      refine bodyPost_ret (outBox Try.results50 H63.out rfl _ Try.underlying25 rfl foot_len) rfl ?_
      exact ⟨HBZ.out, _, rfl, by rw [HTH.out]; exact ⟨_, _, rfl, RowL.nil _ _ _, RowL.nil _ _ _⟩⟩
    · by_cases hpn : (np : Int) ≤ p
      · have d1 : decide (p < 0) = false := decide_eq_false hp0
        have d2 : decide ((np : Int) ≤ p) = true := decide_eq_true hpn
        have HTH := Lib.hid (there_zero (t := t) (s := s) (p := p) (.inr (.inr (by rw [HNT.out]; exact hpn))))
        clear hp0 hpn
        go_wp2_with (refine wpList_storeB rfl 25 _ _ rfl (b3 + 1) 0 [.slice none 0 0, .slice none 0 0, .int .u64 0] rfl rfl H62.out (Nat.le_of_ble_eq_true rfl) foot_len rfl ?_)
        refine Named.mk (fun W3 hW3 => ?_)
        have hf3 : Fr (fun q => q = b3 + 1) w2 W3 := by rw [hW3]; exact Fr.setRX _ _ 0 _
        have H63 : Hid (Holds W3 (b3 + 1) 25 [.slice none 0 0, .slice none 0 0, .int .u64 0]) := H62.out.stored hW3 (Nat.le_of_ble_eq_true rfl)
        have HBZ : Hid (Below w.heap.size w W3) := HB02.out.trans (hf3.to_below HB02.out.size fun q hq e => by have := HBB.out; have e : q = b3 + 1 := e; omega)
        clear hW3 hf3
        go_wp2
        refine bodyPost_ret (outBox Try.results50 H63.out rfl _ Try.underlying25 rfl foot_len) rfl ?_
        exact ⟨HBZ.out, _, rfl, by rw [HTH.out]; exact ⟨_, _, rfl, RowL.nil _ _ _, RowL.nil _ _ _⟩⟩
      · have d1 : decide (p < 0) = false := decide_eq_false hp0
        have d2 : decide ((np : Int) ≤ p) = false := decide_eq_false hpn
        obtain ⟨q, rfl⟩ : ∃ q : Nat, p = (q : Int) := ⟨p.toNat, by omega⟩
        have hqt : q < t.procs.length := by rw [HNT.out]; omega
        have hqn : q < ns.length := by rw [HNP.out]; omega
        have hi2q : (q : Int) < (np : Int) := by omega
        have hi0q : (0 : Int) ≤ (q : Int) := by omega
        have hkl := inAll_at HK4.out hqn hqt
        obtain ⟨g2, o2, c2', xv, he, hxv, hcv⟩ := HR2.out.at1 hqn
        injection he with he _ _
        subst he
        rw [List.getElem?_map, List.getElem?_eq_getElem hqn] at hxv
        injection hxv with hxv
        have HTH := Lib.hid (there_some HTS.out hqt hqn)
        obtain ⟨k, hk⟩ : ∃ k, ns[q] = k := ⟨_, rfl⟩
        have HK := Lib.hid hk
        rw [hk] at hxv hkl HTH
        replace hcv : w2.cell? ⟨g2, o2 + q, none⟩ = some (.int .i64 (k : Int)) := by rw [hcv, ← hxv]; rfl
        have hlo := RowL.inP (P := From w1.heap.size) HR2.out (by rw [← HNP.out] at *; omega)
        have hlo : w1.heap.size ≤ g2 := hlo
        have hb6 := HL6.out
        obtain ⟨T, hT⟩ : ∃ T : World → Prop, T = HeS w2 (b3 + 1) b3 [vi, vp, vq] g2 (o2 + q) (.int .i64 (k : Int)) := ⟨_, rfl⟩
        have HTT := Lib.hid hT
        have hC : T w2.drew := by rw [hT]; exact ⟨(Fr.refl _ w2).drew, H32.out, hcv, ⟨_, rfl, H62.out⟩, by omega, by omega⟩
        have hCt : Hid (∀ W W', T W → Below W.heap.size W W' → T W') := by rw [hT]; exact fun W W' h hb => h.fresh hb
        have HTP : Hid (∀ W W' xs, T W → W' = setR W (b3 + 1) 0 xs → xs.length = 3 → T W' ∧ Holds W' (b3 + 1) 25 xs) := by rw [hT]; exact fun W W' xs h h1 h2 => h.put h1 h2
        have hCs : Hid (∀ W x y z, T W → T (setR W (b3 + 1) 0 [x, y, z])) := fun W x y z h => (HTP.out W _ [x, y, z] h rfl rfl).1
        obtain ⟨f0, f1, f2, HX0⟩ : ∃ f0 f1 f2 : World → Value, ∀ W, T W → W.cell? ⟨b3 + 1, 0, none⟩ = some (f0 W) ∧ W.cell? ⟨b3 + 1, 1, none⟩ = some (f1 W) ∧ W.cell? ⟨b3 + 1, 2, none⟩ = some (f2 W) ∧ W.frozen? ⟨b3 + 1, 0, none⟩ = false ∧ W.frozen? ⟨b3 + 1, 1, none⟩ = false ∧ W.frozen? ⟨b3 + 1, 2, none⟩ = false := by
          rw [hT]
          exact ⟨_, _, _, fun W h => box_cells h.h6⟩
        have hCc : Hid (∀ W, T W → T W ∧ W.cell? ⟨b3, 0, none⟩ = some vi ∧ W.cell? ⟨b3, 1, none⟩ = some vp ∧ W.cell? ⟨b3, 2, none⟩ = some vq ∧ W.cell? ⟨g2, o2 + q, none⟩ = some (.int .i64 (k : Int)) ∧ W.cell? ⟨b3 + 1, 0, none⟩ = some (f0 W) ∧ W.cell? ⟨b3 + 1, 1, none⟩ = some (f1 W) ∧ W.cell? ⟨b3 + 1, 2, none⟩ = some (f2 W) ∧ W.frozen? ⟨b3 + 1, 0, none⟩ = false ∧ W.frozen? ⟨b3 + 1, 1, none⟩ = false ∧ W.frozen? ⟨b3 + 1, 2, none⟩ = false) := by
          intro W h
          have h1 := HX0 W h
          have h2 := h
          rw [hT] at h2
          exact ⟨h, h2.h3.cell 0, h2.h3.cell 1, h2.h3.cell 2, h2.cell, h1⟩
        have HCH : Hid (∀ W, T W → Calls Try.prog 57 #[.agg #[vi, vp, vq], .int .i64 (q : Int), .int .i64 (k : Int)] W (FootP (there t s (q : Int)) W)) := by
          rw [hT]
          intro W h
          rw [HTH.out]
          exact hereFn (HV2.out.up fun x hx hs => h.fr.block x hs fun e => by have h1 : x < w.heap.size := hx; have e : x = b3 + 1 := e; have := HBB.out; omega) HT.out hqt hkl
        have hS0 := Lib.hid (hCc.out _ hC)
        clear hC hT HX0 hcv hkl hxv hlo hb6 hk
        go_upto_region 4 with (fail)
        go_region_held3 (fun W : World => T W ∧ W.cell? ⟨b3, 0, none⟩ = some vi ∧ W.cell? ⟨b3, 1, none⟩ = some vp ∧ W.cell? ⟨b3, 2, none⟩ = some vq ∧ W.cell? ⟨g2, o2 + q, none⟩ = some (.int .i64 (k : Int)) ∧ W.cell? ⟨b3 + 1, 0, none⟩ = some (f0 W) ∧ W.cell? ⟨b3 + 1, 1, none⟩ = some (f1 W) ∧ W.cell? ⟨b3 + 1, 2, none⟩ = some (f2 W) ∧ W.frozen? ⟨b3 + 1, 0, none⟩ = false ∧ W.frozen? ⟨b3 + 1, 1, none⟩ = false ∧ W.frozen? ⟨b3 + 1, 2, none⟩ = false) (first | exact (hCc.out _ (hCs.out _ _ _ _ (And.left (by assumption)))) | exact hS1.out | exact hS0.out) (first
          | (go_at_call 57; refine (HCH.out _ (And.left (by assumption))).mono ?_; rintro e wa ⟨hba, v, rfl, ur, uw, rfl, hua, hub⟩; obtain ⟨aa, ka, rfl, _, _, _⟩ := hua.form; obtain ⟨ab, kb, rfl, _, _, _⟩ := hub.form; have hS1 := Lib.hid (hCc.out _ (hCt.out _ _ (And.left (by assumption)) hba)); have HUA := Lib.hid hua; have HUB := Lib.hid hub; have HBA := Lib.hid hba; clear hba hua hub))
        obtain ⟨w5, hw5⟩ : ∃ W, W = setR wa (b3 + 1) 0 [.slice aa (there t s (q : Int)).reads.length ka, .slice ab (there t s (q : Int)).writes.length kb, .int .u64 ((there t s (q : Int)).turns : Int)] := ⟨_, rfl⟩
        obtain ⟨hp, hp5⟩ := HTP.out wa w5 _ (And.left hS1.out) hw5 rfl
        have hf5 : Fr (fun q => q = b3 + 1) wa w5 := by rw [hw5]; exact Fr.setRX _ _ 0 _
        have ht := hp
        rw [HTT.out] at ht
        have hz : Below w.heap.size w w5 := HB02.out.trans (ht.fr.to_below (B := w.heap.size) HB02.out.size fun x hx e => by have := HBB.out; have e : x = b3 + 1 := e; omega)
        have hs1 : b3 + 1 < w2.heap.size := H62.out.lt
        have ha := row_fr HUA.out hf5 hs1
        have hc := row_fr HUB.out hf5 hs1
        have HBZ := Lib.hid hz
        have HA : Hid (RowL (From w.heap.size) w5 1 (.slice aa (there t s (q : Int)).reads.length ka) (there t s (q : Int)).reads.length ((there t s (q : Int)).reads.map intV)) := ha.mono (Wide.from HB02.out.size)
        have HC : Hid (RowL (From w.heap.size) w5 1 (.slice ab (there t s (q : Int)).writes.length kb) (there t s (q : Int)).writes.length ((there t s (q : Int)).writes.map intV)) := hc.mono (Wide.from HB02.out.size)
        have HP5 := Lib.hid hp5
        rw [show (((wa.setCell { block := b3 + 1, off := 0 } (Value.slice aa (there t s (q : Int)).reads.length ka)).setCell { block := b3 + 1, off := 1 } (Value.slice ab (there t s (q : Int)).writes.length kb)).setCell { block := b3 + 1, off := 2 } (Value.int IntKind.u64 ((there t s (q : Int)).turns : Int))) = w5 from hw5.symm]
        clear hw5 hp hp5 hf5 ht hz ha hc hS0 hS1 hCc hCt hCs HTP HCH HUA HUB HBA
        go_wp2
        refine bodyPost_ret (outBox Try.results50 HP5.out rfl _ Try.underlying25 rfl foot_len) rfl ?_
        exact ⟨HBZ.out, _, rfl, _, _, rfl, HA.out, HC.out⟩
end Go.Proofs.Ytcopoaaofjeklaa.G
