/- The walk of threads.Look. -/
import Derived.Test.YtcopoaaofjeklaaTst
import Derived.Test.YtcopoaaofjeklaaTtu
import Derived.Test.YtcopoaaofjeklaaMa4
namespace Go.Proofs.Ytcopoaaofjeklaa.G
open Go.RowKit
set_option linter.unusedVariables false
set_option linter.unusedSimpArgs false

theorem inAll_at : ∀ {l : List Nat} {r : List (List TNode)} {i : Nat}, inAll l r = true → ∀ (h : i < l.length) (h2 : i < r.length), l[i] < r[i].length
  | k :: l, p :: r, 0, ha, h, h2 => by simp only [inAll, Bool.and_eq_true, decide_eq_true_eq] at ha; exact ha.1
  | k :: l, p :: r, i + 1, ha, h, h2 => by
    simp only [inAll, Bool.and_eq_true, decide_eq_true_eq] at ha
    exact inAll_at ha.2 (by simpa using h) (by simpa using h2)
theorem nums_le {b : Nat} : ∀ (m : Nat) (l : Bs) {ns : List Nat} {r : Bs}, nums b m l = some (ns, r) → ∀ k ∈ ns, k ≤ b
  | 0, l, ns, r, h => by rw [nums] at h; injection h with h; injection h with h1 _; subst h1; intro k hk; cases hk
  | m + 1, l, ns, r, h => by
    rw [nums] at h
    split at h
    · split at h
      · cases h
      · split at h
        · rename_i hb p hp
          injection h with h; injection h with h1 _
          subst h1
          intro k hk
          rcases List.mem_cons.1 hk with rfl | hk
          · omega
          · exact nums_le m _ (ns := p.1) (r := p.2) hp k hk
        · cases h
    · cases h
theorem tstate_of {t : PThr} {s : ByteArray} {vs ns : List Nat} (h : tstate t s = some (vs, ns)) : vs.length = t.init.length ∧ ns.length = t.procs.length ∧ (∀ v ∈ vs, v ≤ 255) ∧ inAll ns t.procs = true ∧ (∀ k ∈ ns, k ≤ 20000) := by
  unfold tstate at h
  split at h
  · rename_i l e
    split at h
    · rename_i hc
      injection h with h
      injection h with h1 h2
      subst h1
      subst h2
      have hl := nums_len _ _ e
      simp only [Bool.and_eq_true] at hc
      refine ⟨by rw [List.length_take]; omega, by rw [List.length_drop]; omega, fun v hv => by simpa using List.all_eq_true.1 hc.1 v hv, hc.2, fun k hk => ?_⟩
      obtain ⟨i, hi, rfl⟩ := List.getElem_of_mem hk
      exact nums_le _ _ e _ (List.mem_of_mem_drop (List.getElem_mem hi))
    · cases h
  · cases h
theorem tprops_at {vs : List Nat} {l : List TProp} {i j : Nat} (h : i < l.length) {q : Nat} (hq : vs[l[i].obj.toNat]? = some q) : tprops vs (l.drop i) j = (if (q : Int) = l[i].val then 2 ^ j else 0) ||| tprops vs (l.drop (i + 1)) (j + 1) := by
  rw [List.drop_eq_getElem_cons h, tprops, hq]
  simp
theorem tmarks_at {ns : List Nat} {r : List (List TNode)} {i : Nat} (h : i < ns.length) (h2 : i < r.length) (h3 : ns[i] < r[i].length) : tmarks (ns.drop i) (r.drop i) = (r[i][ns[i]].fin && (tmarks (ns.drop (i + 1)) (r.drop (i + 1))).1, r[i][ns[i]].prog || (tmarks (ns.drop (i + 1)) (r.drop (i + 1))).2.1, r[i][ns[i]].acc || (tmarks (ns.drop (i + 1)) (r.drop (i + 1))).2.2) := by
  rw [List.drop_eq_getElem_cons h, List.drop_eq_getElem_cons h2, tmarks, List.getElem?_eq_getElem h3]
theorem sz_Bool : (Try.prog.info? 4).map (·.size) = some 1 := by kernel_rfl
def TLookPost (t : PThr) (s : ByteArray) (w : World) (e : Ending) (w' : World) : Prop := Below w.heap.size w w' ∧ e = .returned (sight (tlook t s))
set_option maxHeartbeats 4000000 in
set_option maxRecDepth 100000 in
theorem tlookFn {P : Nat → Prop} {w : World} {t : PThr} {vi vp vq : Value} {s : ByteArray} (h : ThrV P w vi vp vq t) (ht : OkT t) (hs : s.size ≤ 1048576) : Calls Try.prog 52 #[.agg #[vi, vp, vq], .string s] w (TLookPost t s w) := by
  have h := h.mono (Q := fun q => q < w.heap.size) fun q _ hq => hq
  obtain ⟨l16, l8, l60⟩ := ht.len
  have hpr := ht.props
  obtain ⟨w1, hw1⟩ : ∃ W, W = (w.alloc (.cells #[vi, vp, vq] 66)).alloc (.cells #[.int .u64 0, .bool false, .bool false, .bool false] 46) := ⟨_, rfl⟩
  have hb1 : Below w.heap.size w w1 := by rw [hw1]; exact ((Below.refl _ _).alloc (Nat.le_refl _) _).alloc (by simp) _
  have h2 : Holds w1 w.heap.size 66 [vi, vp, vq] := by rw [hw1]; exact (Holds.new w 66 #[vi, vp, vq]).alloc _
  have h4 : Holds w1 (w.heap.size + 1) 46 [.int .u64 0, .bool false, .bool false, .bool false] := by
    have h := Holds.new (w.alloc (.cells #[vi, vp, vq] 66)) 46 #[.int .u64 0, .bool false, .bool false, .bool false]
    simp only [World.size_alloc] at h
    rw [hw1]; exact h
  have hv1 := h.up (Keep.below hb1)
  have HST := Lib.hid (stateFn hv1 ht hs)
  have HV1 := Lib.hid hv1
  have HPR := Lib.hid hpr
  have H2 := Lib.hid h2
  have H4 := Lib.hid h4
  have HB1 := Lib.hid hb1
  have HRG := Lib.hid (h2.range (i := 0) (n := 3) (xs := [vi, vp, vq]) rfl)
  have c1 : vi.oneCell' = true := h.init.cell1
  have c2 : vp.oneCell' = true := by obtain ⟨_, k, _⟩ := h.procs; exact k.cell1
  have c3 : vq.oneCell' = true := by obtain ⟨_, k, _⟩ := h.props; exact k.cell1
  have HB4 : Hid (w.heap.size ≤ w.heap.size + 1) := Nat.le_succ _
  clear h ht hs hb1 h2 h4 hv1 hpr
  go_enter Try.func52, Try.ntmps52
  go_upto_region 1 with (fail)
  rw [← hw1]
  clear hw1
  obtain ⟨b4, hb4⟩ : ∃ b, w.heap.size + 1 = b := ⟨_, rfl⟩
  rw [hb4] at H4 HB4 ⊢
  obtain ⟨b2, hb2⟩ : ∃ b, w.heap.size = b := ⟨_, rfl⟩
  have HBW := Lib.hid hb2
  rw [hb2] at H2 HRG HB4 ⊢
  clear hb4 hb2
  go_wp2_with (refine wpList_load_mid rfl 66 _ rfl b2 0 rfl [vi, vp, vq] _ HRG.out Try.underlying66 rfl sz_Thr ?_)
  refine HST.out.mono ?_
  rintro e w2 ⟨hb2, hp⟩
  have HB2 := Lib.hid hb2
  have HB02 := Lib.hid (HB1.out.trans (hb2.mono HB1.out.size))
  have H42 := Lib.hid (H4.out.belowAll hb2)
  have H22 := Lib.hid (H2.out.belowAll hb2)
  clear HST HRG hb2 H4 H2
  cases hts : tstate t s with
  | none =>
    rw [hts] at hp
    obtain ⟨v1, v2, rfl⟩ := hp
    have HLK : Hid (sight (tlook t s) = .agg #[.int .u64 0, .bool false, .bool false, .bool false]) := by show _ = _; unfold tlook; rw [hts]; rfl
    go_wp2_with (refine wpList_storeB rfl 46 _ _ rfl b4 0 [.int .u64 0, .bool false, .bool false, .bool false] rfl rfl H42.out (Nat.le_of_ble_eq_true rfl) sz_Sight rfl ?_)
    refine Named.mk (fun W3 hW3 => ?_)
    have hf3 : Fr (fun q => q = b4) w2 W3 := by rw [hW3]; exact Fr.setRX _ _ 0 _
    have H43 : Hid (Holds W3 b4 46 [.int .u64 0, .bool false, .bool false, .bool false]) := H42.out.stored hW3 (Nat.le_of_ble_eq_true rfl)
    have HB3 : Hid (Below w.heap.size w W3) := HB02.out.trans (hf3.to_below HB02.out.size fun q hq e => by have := HB4.out; have e : q = b4 := e; have := HBW.out; omega)
    clear hW3 hf3
    go_wp2
    refine bodyPost_ret (outBox Try.results52 H43.out rfl _ Try.underlying46 rfl sz_Sight) rfl ?_
    exact ⟨HB3.out, by rw [HLK.out]⟩
  | some r =>
    obtain ⟨vs, ns⟩ := r
    rw [hts] at hp
    obtain ⟨v1, v2, rfl, hr1, hr2⟩ := hp
    obtain ⟨k1, k2, k3, k4, k5⟩ := tstate_of hts
    have hlk : tlook t s = ⟨[], tprops vs t.props 0, (tmarks ns t.procs).1, (tmarks ns t.procs).2.1, (tmarks ns t.procs).2.2⟩ := by unfold tlook; rw [hts]
    have HLK := Lib.hid hlk
    have hr1 := hr1.row.mono (Q := fun q => q < w2.heap.size) fun q _ hq => hq
    have hr2 := hr2.row.mono (Q := fun q => q < w2.heap.size) fun q _ hq => hq
    obtain ⟨a1, z1, rfl, _, _, _⟩ := hr1.form
    obtain ⟨a2, z2, rfl, _, _, _⟩ := hr2.form
    have hv2 := (HV1.out.up (Keep.below HB2.out)).mono (Q := fun q => q < w2.heap.size) fun q _ hq => hq
    obtain ⟨w5, hw5⟩ : ∃ W, W = w2.alloc (.cells #[.int .u64 0, .bool true, .bool false, .bool false] 46) := ⟨_, rfl⟩
    have hb5 : Below w2.heap.size w2 w5 := by rw [hw5]; exact (Below.refl _ _).alloc (Nat.le_refl _) _
    have H85 : Hid (Holds w5 w2.heap.size 46 [.int .u64 0, .bool true, .bool false, .bool false]) := by rw [hw5]; exact Holds.new w2 46 #[.int .u64 0, .bool true, .bool false, .bool false]
    have HR1 := Lib.hid (hr1.up (Keep.below hb5))
    have HR2 := Lib.hid (hr2.up (Keep.below hb5))
    have hv5 := hv2.up (Keep.below hb5)
    obtain ⟨fq, q1, q2⟩ := hv5.props
    obtain ⟨fp, p1, p2⟩ := hv5.procs
    obtain ⟨aq, cq, rfl, _, _, _⟩ := q1.form
    obtain ⟨ap, cp, rfl, _, _, _⟩ := p1.form
    have HQ1 := Lib.hid q1
    have HQ2 := Lib.hid q2
    have HP1 := Lib.hid p1
    have HP2 := Lib.hid p2
    have H25 := Lib.hid (H22.out.belowAll hb5)
    have H45 := Lib.hid (H42.out.belowAll hb5)
    have HB05 : Hid (Below w.heap.size w w5) := HB02.out.trans (hb5.mono HB02.out.size)
    have HK1 := Lib.hid k1
    have HK2 := Lib.hid k2
    have HK4 := Lib.hid k4
    have HK5 := Lib.hid k5
    obtain ⟨qn, hnq⟩ : ∃ n, t.props.length = n := ⟨_, rfl⟩
    obtain ⟨np, hnp⟩ : ∃ n, t.procs.length = n := ⟨_, rfl⟩
    obtain ⟨ni, hni⟩ : ∃ n, t.init.length = n := ⟨_, rfl⟩
    have HNQ := Lib.hid hnq
    have hq60 : qn ≤ 60 := by omega
    have HNP := Lib.hid hnp
    have hp8 : np ≤ 8 := by omega
    have HNI := Lib.hid hni
    have e2 := H25.out.cell 2
    simp only [List.getElem?_cons_zero, List.getElem?_cons_succ] at e2
    rw [k1, hni, k2, hnp]
    rw [hnq] at e2
    have hb24 : Hid (b4 ≠ w2.heap.size) := by have := H42.out.lt; show _ ≠ _; omega
    have HLT : Hid (w.heap.size ≤ w2.heap.size) := HB02.out.size
    clear hlk hr1 hr2 hv2 hv5 q1 q2 p1 p2 k1 k2 k4 k3 k5 hnq hnp hni H22 H42 hb5 hts HV1 HB2 HB02
    rw [hw5] at e2
    go_wp2_with (fail)
    rw [← hw5]
    clear hw5 e2
    obtain ⟨b8, hb8⟩ : ∃ b, w2.heap.size = b := ⟨_, rfl⟩
    rw [hb8] at H85 hb24 HLT ⊢
    simp only [hb8] at HR1 HR2 HQ1 HQ2 HP1 HP2
    clear hb8
    have KP : Hid (∀ {W : World}, Fr (fun q => q = b8) w5 W → Keep (fun q => q < b8) w5 W) := fun hf q hq hs => hf.block q hs (by intro e; have e : q = b8 := e; have hq : q < b8 := hq; omega)
    go_loopw [29] (fun x W => ∃ i acc : Nat, x = .int .i64 (i : Int) ∧ i ≤ qn ∧ acc < 2 ^ i ∧ Hid (acc ||| tprops vs (t.props.drop i) i = tprops vs t.props 0) ∧ Hid (Holds W b8 46 [.int .u64 (acc : Int), .bool true, .bool false, .bool false]) ∧ Hid (Fr (fun q => q = b8) w5 W)) (fun x _ => qn - (intOf x).toNat)
    case atStart => exact ⟨0, 0, rfl, Nat.zero_le _, by simp, by show _ = _; rw [Nat.zero_or]; rfl, H85.out, Fr.refl _ _⟩
    case round =>
      obtain ⟨i, acc, hx, hi, hacc, HA, H8, HF⟩ := hrel
      subst hx
      by_cases hin : i < qn
      · have hi2i : (i : Int) < (qn : Int) := by omega
        have hi0i : (0 : Int) ≤ (i : Int) := by omega
        have hwii : IntKind.i64.wrap (i : Int) = (i : Int) := by rw [IntKind.wrap_i64]; omega
        have hwji : IntKind.i64.wrap ((i : Int) + 1) = (i : Int) + 1 := by rw [IntKind.wrap_i64]; omega
        have hil : i < t.props.length := by rw [HNQ.out]; exact hin
        obtain ⟨gb, ob, cb, c, he, hG, hr⟩ := (HQ1.out.up (KP.out HF.out)).atN oneTProp (LsF.up (fun _ _ => oneTProp.up (KP.out HF.out)) _ HQ2.out) hil
        injection he with he _ hec
        subst he hec
        have hG : c = _ := hG
        subst hG
        have hpo := HPR.out _ (List.getElem_mem hil)
        obtain ⟨k, hk⟩ : ∃ k : Nat, t.props[i].obj = (k : Int) := ⟨t.props[i].obj.toNat, by omega⟩
        have hkn : k < ni := by have := HNI.out; omega
        have hkv : k < vs.length := by rw [HK1.out, HNI.out]; exact hkn
        obtain ⟨q, hq⟩ : ∃ q, vs[k] = q := ⟨_, rfl⟩
        have hkd : t.props[i].obj.toNat = k := by omega
        have HSTP := Lib.hid (tprops_at (vs := vs) (j := i) hil (q := q) (by rw [hkd, List.getElem?_eq_getElem hkv, hq]))
        obtain ⟨gv, ov, cv, x, he, hxv, hcv⟩ := (HR1.out.up (KP.out HF.out)).at1 hkv
        injection he with he _ hec
        subst he hec
        rw [List.getElem?_map, List.getElem?_eq_getElem hkv, hq] at hxv
        injection hxv with hxv
        have hxv : natV q = x := hxv
        subst hxv
        rw [hk] at hr
        obtain ⟨pv, hpv⟩ : ∃ q, t.props[i].val = q := ⟨_, rfl⟩
        rw [hpv] at HSTP hr
        have HR := Lib.hid hr
        have hk2 : (k : Int) < (ni : Int) := by omega
        have hk0 : (0 : Int) ≤ (k : Int) := by omega
        have hcv : (wr.alloc (.cells #[.int .i64 (k : Int), .int .i64 pv] 56)).cell? ⟨gv, ov + k, none⟩ = some (.int .i64 (q : Int)) := by
          have hlt := World.block_lt_of_cell? wr _ hcv
          exact (((Below.refl wr.heap.size wr).alloc (Nat.le_refl _) _).cell hlt).trans hcv
        clear hr hq hkd hpo hk hpv
        have hb3 : Fr (fun q => q = b8) w5 (wr.alloc (.cells #[.int .i64 (k : Int), .int .i64 pv] 56)) := HF.out.alloc _
        have H83 := Lib.hid (H8.out.alloc (.cells #[.int .i64 (k : Int), .int .i64 pv] 56))
        have HF3 := Lib.hid hb3
        clear hb3
        by_cases hqp : (q : Int) = pv
        · have d1 : ((q : Int) == pv) = true := by rw [hqp]; exact beq_self_eq_true _
          have HQP := Lib.hid hqp
          clear hqp
          go_wp2_with (refine wpList_load_mid rfl 56 _ rfl gb (ob + i * 2) rfl [.int .i64 (k : Int), .int .i64 pv] _ HR.out Try.underlying56 rfl sz_TProp ?_)
          go_quiet (fail)
          go_wp2
          obtain ⟨w6, hw6⟩ : ∃ W, W = (wr.alloc (.cells #[.int .i64 (k : Int), .int .i64 pv] 56)).drewN nq := ⟨_, rfl⟩
          rw [← hw6]
          have h86 : Holds w6 b8 46 [.int .u64 (acc : Int), .bool true, .bool false, .bool false] := by rw [hw6]; exact H83.out.of_eq rfl
          have hf6 : Fr (fun q => q = b8) w5 w6 := by rw [hw6]; exact HF3.out.drewN nq
          have d0 := h86.cell 0
          simp only [List.getElem?_cons_zero, List.getElem?_cons_succ] at d0
          have g0 := h86.free 0
          obtain ⟨z1', z2'⟩ := bits_at hacc (by omega)
          have HK2' := Lib.hid z2'
          have H86 := Lib.hid h86
          have HF6 := Lib.hid hf6
          clear hw6 h86 hf6 z2' hcv HF3 H83 H8 HF
          go_region
          go_wp2
          have h87 : Holds (w6.setCell ⟨b8, 0, none⟩ (.int .u64 ((acc ||| 2 ^ i : Nat) : Int))).drew b8 46 [.int .u64 ((acc ||| 2 ^ i : Nat) : Int), .bool true, .bool false, .bool false] := (H86.out.put 0 _).of_eq rfl
          refine ⟨⟨i + 1, acc ||| 2 ^ i, by simp, by omega, HK2'.out, ?_, h87, (HF6.out.setCell (fun _ => rfl) _).drew⟩, ?_⟩
          · show _ = _
            rw [← HA.out, HSTP.out, if_pos HQP.out, Nat.or_assoc]
          · simp [intOf]
            omega
        · have d1 : ((q : Int) == pv) = false := by rw [beq_eq_false_iff_ne]; exact hqp
          have HQP := Lib.hid hqp
          clear hqp
          go_wp2_with (refine wpList_load_mid rfl 56 _ rfl gb (ob + i * 2) rfl [.int .i64 (k : Int), .int .i64 pv] _ HR.out Try.underlying56 rfl sz_TProp ?_)
          go_quiet (fail)
          have h86 : Holds ((wr.alloc (.cells #[.int .i64 (k : Int), .int .i64 pv] 56)).drewN nq) b8 46 [.int .u64 (acc : Int), .bool true, .bool false, .bool false] := H83.out.of_eq rfl
          have H86 := Lib.hid h86
          have HF6 := Lib.hid (HF3.out.drewN nq)
          clear h86 hcv HF3 H83 H8 HF
          go_wp2
          refine ⟨⟨i + 1, acc, by simp, by omega, Nat.lt_trans hacc (pow2_lt (by omega)), ?_, H86, HF6⟩, ?_⟩
          · show _ = _
            rw [← HA.out, HSTP.out, if_neg HQP.out, Nat.zero_or]
          · simp [intOf]
            omega
      · obtain rfl : i = qn := by omega
        have hz : acc = tprops vs t.props 0 := by
          rw [← HA.out, List.drop_of_length_le (by rw [HNQ.out]; exact Nat.le_refl _)]
          show _ = acc ||| 0
          rw [Nat.or_zero]
        have HZ := Lib.hid hz
        clear hz
        obtain ⟨wq, rfl⟩ : ∃ W, W = wr := ⟨_, rfl⟩
        go_wp2
        go_loopw [51] (fun x W => ∃ (j : Nat) (e pg ac : Bool), x = .int .i64 (j : Int) ∧ j ≤ np ∧ Hid ((e && (tmarks (ns.drop j) (t.procs.drop j)).1, pg || (tmarks (ns.drop j) (t.procs.drop j)).2.1, ac || (tmarks (ns.drop j) (t.procs.drop j)).2.2) = tmarks ns t.procs) ∧ Hid (Holds W b8 46 [.int .u64 (acc : Int), .bool e, .bool pg, .bool ac]) ∧ Hid (Fr (fun q => q = b8) w5 W)) (fun x _ => np - (intOf x).toNat)
        case atStart => exact ⟨0, true, false, false, rfl, Nat.zero_le _, by show _ = _; simp, H8.out, HF.out⟩
        case round =>
          clear H8 HF
          obtain ⟨j, e, pg, ac, hx, hj, HM, H8, HF⟩ := hrel
          subst hx
          by_cases hjm : j < np
          · have hi2j : (j : Int) < (np : Int) := by omega
            have hi0j : (0 : Int) ≤ (j : Int) := by omega
            have hwij : IntKind.i64.wrap (j : Int) = (j : Int) := by rw [IntKind.wrap_i64]; omega
            have hwjj : IntKind.i64.wrap ((j : Int) + 1) = (j : Int) + 1 := by rw [IntKind.wrap_i64]; omega
            have hjn : j < ns.length := by rw [HK2.out, HNP.out]; exact hjm
            have hjp : j < t.procs.length := by rw [HNP.out]; exact hjm
            have hlt := inAll_at HK4.out hjn hjp
            have HMS := Lib.hid (tmarks_at hjn hjp hlt)
            obtain ⟨k, hk⟩ : ∃ k, ns[j] = k := ⟨_, rfl⟩
            obtain ⟨gv, ov, cv, xx, he, hxv, hcv⟩ := (HR2.out.up (KP.out HF.out)).at1 hjn
            injection he with he _ hec
            subst he hec
            rw [List.getElem?_map, List.getElem?_eq_getElem hjn, hk] at hxv
            injection hxv with hxv
            have hxv : natV k = xx := hxv
            subst hxv
            replace hcv : wr.cell? ⟨gv, ov + j, none⟩ = some (.int .i64 (k : Int)) := hcv
            obtain ⟨gp, op, cp2, c, he, hG, hr⟩ := (HP1.out.up (KP.out HF.out)).atN oneTProc (LsF.up (fun _ _ => oneTProc.up (KP.out HF.out)) _ HP2.out) hjp
            injection he with he _ hec
            subst he hec
            obtain ⟨v9, f9, rfl, r9, g9⟩ := hG
            rw [hk] at hlt
            obtain ⟨gn, on, cn, c, he, hGn, hrn⟩ := r9.atN oneTNode g9 hlt
            subst he
            obtain ⟨x, hx⟩ : ∃ x, t.procs[j][k] = x := ⟨_, rfl⟩
            rw [hx] at hGn
            obtain ⟨va, fa, rfl, ra, _⟩ := hGn
            have hcp := hr 0 (.slice (some ⟨gn, on, none⟩) t.procs[j].length cn) rfl
            rw [Nat.add_zero, Nat.mul_one] at hcp
            have hone : ([va, .bool x.fin, .bool x.prog, .bool x.acc] : List Value).all (·.oneCell') = true := by simp [ra.cell1]; simp [Value.oneCell']
            have HR := Lib.hid hrn
            have HZ := Lib.hid (Holds.new wr 61 #[.slice none 0 0, .bool false, .bool false, .bool false])
            have hkz : (k : Int) < (t.procs[j].length : Int) := by omega
            have hk0 : (0 : Int) ≤ (k : Int) := by omega
            have hk2 : k ≤ 20000 := by rw [← hk]; exact HK5.out _ (List.getElem_mem hjn)
            have hwk : IntKind.i64.wrap (k : Int) = (k : Int) := by rw [IntKind.wrap_i64]; omega
            have e1 := (HF.out.holds H25.out (H25.out.ne_of_type H85.out (by decide))).cell 1
            simp only [List.getElem?_cons_zero, List.getElem?_cons_succ] at e1
            rw [HNP.out] at e1
            have hxm : t.procs[j][ns[j]] = x := by simp only [hk]; exact hx
            have HMS2 : Hid (tmarks (ns.drop j) (t.procs.drop j) = (x.fin && (tmarks (ns.drop (j + 1)) (t.procs.drop (j + 1))).1, x.prog || (tmarks (ns.drop (j + 1)) (t.procs.drop (j + 1))).2.1, x.acc || (tmarks (ns.drop (j + 1)) (t.procs.drop (j + 1))).2.2)) := by
              have h := HMS.out
              rw [hxm] at h
              exact h
            obtain ⟨zl, hzl⟩ : ∃ z, t.procs[j].length = z := ⟨_, rfl⟩
            rw [hzl] at hkz hcp
            clear hzl hk hx hxm hrn ra hr r9 g9 hlt HMS
            go_wp2_with (first | (refine wpList_load_mid rfl 61 _ rfl gn (on + k * 4) rfl [va, .bool x.fin, .bool x.prog, .bool x.acc] _ HR.out Try.underlying61 rfl sz_TNode ?_) | (refine wpList_storeB rfl 61 _ _ rfl wr.heap.size 0 [va, .bool x.fin, .bool x.prog, .bool x.acc] rfl rfl HZ.out (Nat.le_of_ble_eq_true rfl) sz_TNode hone ?_))
            refine Named.mk (fun W2 hW2 => ?_)
            have hb2 : Below wr.heap.size wr W2 := by rw [hW2]; exact Below.far (Below.refl _ _) (Nat.le_refl _) _ _ _
            have H13 : Hid (Holds W2 wr.heap.size 61 [va, .bool x.fin, .bool x.prog, .bool x.acc]) := HZ.out.stored hW2 (Nat.le_of_ble_eq_true rfl)
            have H82 := Lib.hid (H8.out.belowAll hb2)
            have HF2 : Hid (Fr (fun q => q = b8) w5 W2) := HF.out.trans (Fr.of_below hb2 _) fun q _ hq => hq
            obtain ⟨xf, hxf⟩ : ∃ b, x.fin = b := ⟨_, rfl⟩
            obtain ⟨xp, hxp⟩ : ∃ b, x.prog = b := ⟨_, rfl⟩
            obtain ⟨xa, hxa⟩ : ∃ b, x.acc = b := ⟨_, rfl⟩
            rw [hxf, hxp, hxa] at H13 HMS2
            obtain ⟨b13, hb13⟩ : ∃ b, wr.heap.size = b := ⟨_, rfl⟩
            rw [hb13] at H13 ⊢
            have f1 := H13.out.cell 1
            have g1 := H82.out.cell 1
            simp only [List.getElem?_cons_zero, List.getElem?_cons_succ] at f1 g1
            clear hW2 hb2 hone HZ HR H8 HF hxf hxp hxa hb13 hcp hcv e1
            go_upto_region 15 with (fail)
            go_cut [] (fun wx => Hid (Holds wx b8 46 [.int .u64 (acc : Int), .bool (e && xf), .bool pg, .bool ac]) ∧ Hid (Fr (fun q => q = b8) W2 wx))
            case first =>
              cases e with
              | true =>
                go_wp2_with (refine wpList_store1 rfl 4 _ _ rfl b8 1 (.bool (true && xf)) rfl rfl H82.out (Nat.le_of_ble_eq_true rfl) sz_Bool rfl rfl ?_)
                refine Named.mk (fun W3 hW3 => ?_)
                have H83x : Hid (Holds W3 b8 46 [.int .u64 (acc : Int), .bool (true && xf), .bool pg, .bool ac]) := H82.out.stored hW3 (Nat.le_of_ble_eq_true rfl)
                have HF3x : Hid (Fr (fun q => q = b8) W2 W3) := by
                  have hf : Fr (fun q => q = b8) W2 W3 := by rw [hW3]; exact Fr.setRX _ _ 1 _
                  exact hf
                clear hW3
                go_wp2
                go_meet
                case rel => exact ⟨H83x, HF3x⟩
              | false =>
                go_wp2_with (refine wpList_store1 rfl 4 _ _ rfl b8 1 (.bool (false && xf)) rfl rfl H82.out (Nat.le_of_ble_eq_true rfl) sz_Bool rfl rfl ?_)
                refine Named.mk (fun W3 hW3 => ?_)
                have H83x : Hid (Holds W3 b8 46 [.int .u64 (acc : Int), .bool (false && xf), .bool pg, .bool ac]) := H82.out.stored hW3 (Nat.le_of_ble_eq_true rfl)
                have HF3x : Hid (Fr (fun q => q = b8) W2 W3) := by
                  have hf : Fr (fun q => q = b8) W2 W3 := by rw [hW3]; exact Fr.setRX _ _ 1 _
                  exact hf
                clear hW3
                go_wp2
                go_meet
                case rel => exact ⟨H83x, HF3x⟩
            case rest =>
              obtain ⟨H83, HF3⟩ := hcut
              clear f1 g1
              have h133 := HF3.out.holds H13.out (H13.out.ne_of_type H82.out (by decide))
              have f1 := h133.cell 2
              have g1 := H83.out.cell 2
              simp only [List.getElem?_cons_zero, List.getElem?_cons_succ] at f1 g1
              clear h133
              go_upto_region 16 with (fail)
              go_cut [] (fun wx => Hid (Holds wx b8 46 [.int .u64 (acc : Int), .bool (e && xf), .bool (pg || xp), .bool ac]) ∧ Hid (Fr (fun q => q = b8) W2 wx))
              case first =>
                cases pg with
                | true =>
                  go_wp2_with (refine wpList_store1 rfl 4 _ _ rfl b8 2 (.bool (true || xp)) rfl rfl H83.out (Nat.le_of_ble_eq_true rfl) sz_Bool rfl rfl ?_)
                  refine Named.mk (fun W3 hW3 => ?_)
                  have H83x : Hid (Holds W3 b8 46 [.int .u64 (acc : Int), .bool (e && xf), .bool (true || xp), .bool ac]) := H83.out.stored hW3 (Nat.le_of_ble_eq_true rfl)
                  have HF3x : Hid (Fr (fun q => q = b8) W2 W3) := by
                    have hf : Fr (fun q => q = b8) wc W3 := by rw [hW3]; exact Fr.setRX _ _ 2 _
                    exact HF3.out.trans hf fun q _ hq => hq
                  clear hW3
                  go_wp2
                  go_meet
                  case rel => exact ⟨H83x, HF3x⟩
                | false =>
                  go_wp2_with (refine wpList_store1 rfl 4 _ _ rfl b8 2 (.bool (false || xp)) rfl rfl H83.out (Nat.le_of_ble_eq_true rfl) sz_Bool rfl rfl ?_)
                  refine Named.mk (fun W3 hW3 => ?_)
                  have H83x : Hid (Holds W3 b8 46 [.int .u64 (acc : Int), .bool (e && xf), .bool (false || xp), .bool ac]) := H83.out.stored hW3 (Nat.le_of_ble_eq_true rfl)
                  have HF3x : Hid (Fr (fun q => q = b8) W2 W3) := by
                    have hf : Fr (fun q => q = b8) wc W3 := by rw [hW3]; exact Fr.setRX _ _ 2 _
                    exact HF3.out.trans hf fun q _ hq => hq
                  clear hW3
                  go_wp2
                  go_meet
                  case rel => exact ⟨H83x, HF3x⟩
              case rest =>
                clear H83 HF3 f1 g1
                obtain ⟨H84, HF4⟩ := hcut
                have h134 := HF4.out.holds H13.out (H13.out.ne_of_type H82.out (by decide))
                have f1 := h134.cell 3
                have g1 := H84.out.cell 3
                simp only [List.getElem?_cons_zero, List.getElem?_cons_succ] at f1 g1
                have HME : Hid (((e && xf) && (tmarks (ns.drop (j + 1)) (t.procs.drop (j + 1))).1, (pg || xp) || (tmarks (ns.drop (j + 1)) (t.procs.drop (j + 1))).2.1, (ac || xa) || (tmarks (ns.drop (j + 1)) (t.procs.drop (j + 1))).2.2) = tmarks ns t.procs) := by
                  show _ = _
                  rw [← HM.out, HMS2.out, Bool.and_assoc, Bool.or_assoc, Bool.or_assoc]
                clear h134
                cases ac with
                | true =>
                  go_wp2_with (refine wpList_store1 rfl 4 _ _ rfl b8 3 (.bool (true || xa)) rfl rfl H84.out (Nat.le_of_ble_eq_true rfl) sz_Bool rfl rfl ?_)
                  refine Named.mk (fun W3 hW3 => ?_)
                  have H85x : Hid (Holds W3 b8 46 [.int .u64 (acc : Int), .bool (e && xf), .bool (pg || xp), .bool (true || xa)]) := H84.out.stored hW3 (Nat.le_of_ble_eq_true rfl)
                  have HF5x : Hid (Fr (fun q => q = b8) w5 W3) := by
                    have hf : Fr (fun q => q = b8) wc W3 := by rw [hW3]; exact Fr.setRX _ _ 3 _
                    exact HF2.out.trans (HF4.out.trans hf fun q _ hq => hq) fun q _ hq => hq
                  clear hW3
                  go_wp2
                  refine ⟨⟨j + 1, _, _, _, by simp, by omega, HME, H85x, HF5x⟩, ?_⟩
                  simp [intOf]
                  omega
                | false =>
                  go_wp2_with (refine wpList_store1 rfl 4 _ _ rfl b8 3 (.bool (false || xa)) rfl rfl H84.out (Nat.le_of_ble_eq_true rfl) sz_Bool rfl rfl ?_)
                  refine Named.mk (fun W3 hW3 => ?_)
                  have H85x : Hid (Holds W3 b8 46 [.int .u64 (acc : Int), .bool (e && xf), .bool (pg || xp), .bool (false || xa)]) := H84.out.stored hW3 (Nat.le_of_ble_eq_true rfl)
                  have HF5x : Hid (Fr (fun q => q = b8) w5 W3) := by
                    have hf : Fr (fun q => q = b8) wc W3 := by rw [hW3]; exact Fr.setRX _ _ 3 _
                    exact HF2.out.trans (HF4.out.trans hf fun q _ hq => hq) fun q _ hq => hq
                  clear hW3
                  go_wp2
                  refine ⟨⟨j + 1, _, _, _, by simp, by omega, HME, H85x, HF5x⟩, ?_⟩
                  simp [intOf]
                  omega
          · obtain rfl : j = np := by omega
            have hz : tmarks ns t.procs = (e, pg, ac) := by
              rw [← HM.out, List.drop_of_length_le (by rw [HK2.out, HNP.out]; exact Nat.le_refl _), List.drop_of_length_le (by rw [HNP.out]; exact Nat.le_refl _)]
              simp [tmarks]
            have HZZ := Lib.hid hz
            clear hz
            have H4Z := Lib.hid (HF.out.holds H45.out hb24.out)
            have HRG := Lib.hid (H8.out.range (i := 0) (n := 4) (xs := [.int .u64 (acc : Int), .bool e, .bool pg, .bool ac]) rfl)
            go_wp2_with (first | (refine wpList_load_mid rfl 46 _ rfl b8 0 rfl [.int .u64 (acc : Int), .bool e, .bool pg, .bool ac] _ HRG.out Try.underlying46 rfl sz_Sight ?_) | (refine wpList_storeB rfl 46 _ _ rfl b4 0 [.int .u64 (acc : Int), .bool e, .bool pg, .bool ac] rfl rfl H4Z.out (Nat.le_of_ble_eq_true rfl) sz_Sight rfl ?_))
            refine Named.mk (fun W3 hW3 => ?_)
            have hf3 : Fr (fun q => q = b4) wr W3 := by rw [hW3]; exact Fr.setRX _ _ 0 _
            have H43 : Hid (Holds W3 b4 46 [.int .u64 (acc : Int), .bool e, .bool pg, .bool ac]) := H4Z.out.stored hW3 (Nat.le_of_ble_eq_true rfl)
            have HBR : Below w.heap.size w wr := HB05.out.trans (HF.out.to_below HB05.out.size fun q hq e => by have := HLT.out; have e : q = b8 := e; omega)
            have HB3 : Hid (Below w.heap.size w W3) := HBR.trans (hf3.to_below HBR.size fun q hq e => by have := HB4.out; have e : q = b4 := e; have := HBW.out; omega)
            clear hW3 hf3 HBR
            go_wp2
            refine bodyPost_ret (outBox Try.results52 H43.out rfl _ Try.underlying46 rfl sz_Sight) rfl ?_
            refine ⟨HB3.out, ?_⟩
            rw [HLK.out, HZZ.out, ← HZ.out]
            rfl
end Go.Proofs.Ytcopoaaofjeklaa.G
