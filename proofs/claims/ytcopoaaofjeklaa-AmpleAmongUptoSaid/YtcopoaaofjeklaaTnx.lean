/- The walks of threads.Next and its iterator. -/
import Derived.Test.YtcopoaaofjeklaaTap
import Derived.Test.YtcopoaaofjeklaaTft
import Derived.Test.YtcopoaaofjeklaaTlk
namespace Go.Proofs.Ytcopoaaofjeklaa.G
open Go.RowKit
set_option linter.unusedVariables false
set_option linter.unusedSimpArgs false
attribute [local go_sem] Oper.semAt_some

theorem KpT.fresh {n₀ lo : Nat} {A B : World} (hb : Below A.heap.size A B) (hn : n₀ ≤ A.heap.size) : KpT n₀ lo A B := ⟨hb.mono hn, fun k t cs _ h => h.belowAll hb⟩
theorem KpT.refl (n₀ lo : Nat) (A : World) : KpT n₀ lo A A := ⟨Below.refl _ _, fun _ _ _ _ h => h⟩
theorem KpT.rowI {n₀ lo : Nat} {A B : World} {v : Value} {l : List Nat} (h : RowI lo A v l) (hk : KpT n₀ lo A B) : RowI lo B v l := h.kept fun k cs hl hh => hk.safe k _ cs (.inr (.inr ⟨rfl, hl⟩)) hh
theorem KpT.thr {n₀ lo b : Nat} {A B : World} {cs : List Value} (h : Holds A b 66 cs) (hk : KpT n₀ lo A B) : Holds B b 66 cs := hk.safe b _ cs (.inl rfl) h
theorem KpT.node {n₀ lo b : Nat} {A B : World} {cs : List Value} (h : Holds A b 61 cs) (hk : KpT n₀ lo A B) : Holds B b 61 cs := hk.safe b _ cs (.inr (.inl rfl)) h
theorem KpT.keep {n₀ lo : Nat} {A B : World} {P : Nat → Prop} (hk : KpT n₀ lo A B) (hP : ∀ k, P k → k < n₀) : Keep P A B := fun q hq _ => hk.below.block q (hP q hq)
theorem owns_set {W W' : World} {lo n g cap i x : Nat} {l : List Nat} (h : W.ownsRow lo 3 1 (.slice (some ⟨g, 0, none⟩) n cap) n (l.map natV)) (hi : i < n) (hW : W' = setR W g i [natV x]) : W'.ownsRow lo 3 1 (.slice (some ⟨g, 0, none⟩) n cap) n ((l.set i x).map natV) := by
  have hl := h.1
  rcases h.2 with ⟨h0, _⟩ | ⟨g', cap', cur, hv, hbg, hg, hnc, hcm, hcs, ht⟩
  · cases h0
  · injection hv with hv _ hv2
    injection hv with hv
    injection hv with hv
    subst hv hv2
    have hh : Holds W g 3 cur.toList := by unfold Holds; rw [hg]
    have h2 : Holds W' g 3 (cur.toList.set i (natV x)) := by rw [hW]; exact hh.put i _
    refine ⟨by simpa using hl, .inr ⟨g, cap, (cur.toList.set i (natV x)).toArray, rfl, hbg, h2, hnc, hcm, by simpa using hcs, ?_⟩⟩
    show (cur.toList.set i (natV x)).take (n * 1) = _
    rw [List.take_set, ht, List.map_set]
theorem sz_Int' : (Try.prog.info? 3).map (·.size) = some 1 := by kernel_rfl
theorem owns_int {W : World} {lo g cap n : Nat} {l : List Value} (h : W.ownsRow lo 3 1 (.slice (some ⟨g, 0, none⟩) n cap) n l) : ∃ cs, Holds W g 3 cs ∧ n ≤ cs.length := by
  rcases h.2 with ⟨h0, _⟩ | ⟨g', cap', cur, hv, hbg, hg, hnc, hcm, hcs, ht⟩
  · cases h0
  · injection hv with hv _ hv2
    injection hv with hv
    injection hv with hv
    subst hv hv2
    exact ⟨cur.toList, by unfold Holds; rw [hg], by simp; omega⟩
theorem nat_one (l : List Nat) : ∀ u ∈ l.map natV, u.oneCell' = true := fun u hu => by
  obtain ⟨z, _, rfl⟩ := List.mem_map.1 hu
  rfl
theorem drop_cons {A : Type} {L r : List A} {n : Nat} {a : A} (h : L.drop n = a :: r) : ∃ hl : n < L.length, L[n] = a ∧ L.drop (n + 1) = r := by
  have hl : n < L.length := by
    have := List.length_drop (i := n) (l := L)
    rw [h] at this
    simp at this
    omega
  rw [List.drop_eq_getElem_cons hl] at h
  injection h with h1 h2
  exact ⟨hl, h1, h2⟩
/-- The lists of moves, from a place on. -/
theorem tarcs_at {t : PThr} {vs ns : List Nat} {p : Nat} {l : List TNode} {x : TNode} {k : Nat} {r : List TArc} (h : k < r.length) (j : Nat) : tarcs t vs ns p l x j (r.drop k) = (if tgoes vs r[k] then [tmove t vs ns p l x j r[k]] else []) ++ tarcs t vs ns p l x (j + 1) (r.drop (k + 1)) := by
  rw [List.drop_eq_getElem_cons h, tarcs]
theorem tprocs_at {t : PThr} {vs ns : List Nat} {p : Nat} {r : List (List TNode)} (h : p < r.length) {x : TNode} (hx : r[p][ns.getD p 0]? = some x) : tprocs t vs ns p (r.drop p) = tarcs t vs ns p r[p] x 0 x.arcs ++ tprocs t vs ns (p + 1) (r.drop (p + 1)) := by
  rw [List.drop_eq_getElem_cons h, tprocs, hx]
theorem mem_le_sum : ∀ {l : List Nat} {a : Nat}, a ∈ l → a ≤ l.sum
  | b :: l, a, h => by
    rw [List.sum_cons]
    rcases List.mem_cons.1 h with rfl | h
    · omega
    · have := mem_le_sum h
      omega
def TNextPost (vi vp vq : Value) (s : ByteArray) (w : World) (e : Ending) (w' : World) : Prop := Below w.heap.size w w' ∧ ∃ b0 b1, e = .returned (.func (.func 58) #[] #[.pointer (some ⟨b0, 0, none⟩), .pointer (some ⟨b1, 0, none⟩)]) ∧ Holds w' b0 66 [vi, vp, vq] ∧ Holds w' b1 9 [.string s]
theorem tnextFn (w : World) {vi vp vq : Value} (s : ByteArray) (c1 : vi.oneCell' = true) (c2 : vp.oneCell' = true) (c3 : vq.oneCell' = true) : Calls Try.prog 53 #[.agg #[vi, vp, vq], .string s] w (TNextPost vi vp vq s w) := by
  go_enter Try.func53, Try.ntmps53
  go_wp2
  go_ret
  have h := Holds.new (w.alloc (.cells #[vi, vp, vq] 66)) 9 #[.string s]
  simp only [World.size_alloc] at h
  exact ⟨((Below.refl _ w).alloc (Nat.le_refl _) _).alloc (by simp) _, _, _, rfl, (Holds.new w 66 #[vi, vp, vq]).alloc _, h⟩
set_option maxRecDepth 100000 in
set_option maxHeartbeats 4000000 in
theorem tnext1 (n n₀ : Nat) {P : Nat → Prop} {w : World} {t : PThr} {vi vp vq : Value} {s : ByteArray} {b0 b1 : Nat} (hv : ThrV P w vi vp vq t) (ht : OkT t) (hP : ∀ k, P k → k < n₀) (hn₀ : n₀ ≤ w.heap.size) (hs : s.size ≤ 1048576) (h0 : Holds w b0 66 [vi, vp, vq]) (h1 : Holds w b1 9 [.string s]) :
    SeqTells Fence.wide n Try.prog 58 #[.pointer (some ⟨b0, 0, none⟩), .pointer (some ⟨b1, 0, none⟩)] (fun x => #[x]) (KpT n₀ w.heap.size) (Tells (tnext t s)) (fun ys => ys.length = (tnext t s).length) (fun _ => True) (tnext t s).length w := fun l J Jx W hW hJ hJx hY hJ0 => by
  have hVW := hv.up (Keep.below hW)
  have h0W := h0.belowAll hW
  have hb1 := (h1.belowAll hW).cell 0
  simp only [List.getElem?_cons_zero] at hb1
  have HC := Lib.hid (stateFn hVW ht hs)
  have HV := Lib.hid hVW
  have H0 := Lib.hid h0W
  have HRG := Lib.hid (h0W.range (i := 0) (n := 3) (xs := [vi, vp, vq]) rfl)
  have HT := Lib.hid ht
  have HJJ := Lib.hid hJ
  have HJ0 := Lib.hid hJ0
  have HP0 := Lib.hid hP
  have HN0 : Hid (n₀ ≤ W.heap.size) := Nat.le_trans hn₀ hW.size
  have HLO : Hid (w.heap.size ≤ W.heap.size) := hW.size
  obtain ⟨L, hL⟩ : ∃ L, tnext t s = L := ⟨_, rfl⟩
  rw [hL] at hY ⊢
  have HLL := Lib.hid hL
  have HYY := Lib.hid hY
  obtain ⟨lo, hlo⟩ : ∃ k, w.heap.size = k := ⟨_, rfl⟩
  rw [hlo] at HYY HLO
  have c1 : vi.oneCell' = true := hv.init.cell1
  have c2 : vp.oneCell' = true := by obtain ⟨_, k, _⟩ := hv.procs; exact k.cell1
  have c3 : vq.oneCell' = true := by obtain ⟨_, k, _⟩ := hv.props; exact k.cell1
  clear hL hY hJ hJ0 hv h0 h1 hVW h0W ht hs hW hP hn₀ hlo
  refine callsIn_of_wp Try.func58 rfl trivial ?_ rfl
  simp only [Try.ntmps58, List.size_toArray, List.length_cons, List.length_nil, Nat.reduceAdd, Nat.reduceSub, Array.replicate_succ, Array.replicate_zero, List.push_toArray, List.append_toArray, List.nil_append, List.cons_append]
  gi_wp2_with (refine wpListIn_load_mid rfl 66 _ rfl b0 0 rfl [vi, vp, vq] _ HRG.out Try.underlying66 rfl sz_Thr ?_)
  refine ⟨trivial, no_depth, ?_⟩
  refine (callsIn_wide.2 HC.out).mono ?_
  rintro e w3 ⟨hb3, hp⟩
  have HB3 := Lib.hid hb3
  have HJ3 := Lib.hid (abide_below HJJ.out hb3 HJ0.out)
  have HV3 := Lib.hid (HV.out.up (Keep.below hb3))
  have H03 := Lib.hid (H0.out.belowAll hb3)
  have HN3 : Hid (n₀ ≤ w3.heap.size) := Nat.le_trans HN0.out hb3.size
  clear HC hb3 hb1 HRG HV H0 HJ0
  cases hts : tstate t s with
  | none =>
    rw [hts] at hp
    obtain ⟨v1, v2, rfl⟩ := hp
    have HL0 : Hid (L = []) := by show _ = _; rw [← HLL.out]; unfold tnext; rw [hts]
    gi_wp2
    refine bodyPost_ret (results_none rfl _ _ _) rfl ?_
    exact ⟨⟨_, rfl⟩, .inl ⟨[], by rw [HL0.out]; rfl, HJ3.out⟩⟩
  | some r =>
    obtain ⟨vs, ns⟩ := r
    rw [hts] at hp
    obtain ⟨v1, v2, rfl, hr1, hr2⟩ := hp
    obtain ⟨k1, k2, k3, k4, k5⟩ := tstate_of hts
    have HLS : Hid (L = tprocs t vs ns 0 t.procs) := by show _ = _; rw [← HLL.out]; unfold tnext; rw [hts]
    have HR1 := Lib.hid (hr1.wide HLO.out)
    have HR2 := Lib.hid (hr2.wide HLO.out)
    obtain ⟨a1, z1, rfl, hz1, hz1', _⟩ := hr1
    obtain ⟨a2, z2, rfl, hz2, hz2', _⟩ := hr2
    obtain ⟨fp, p1, p2⟩ := HV3.out.procs
    obtain ⟨ap, cp, rfl, _, _, _⟩ := p1.form
    have HP1 := Lib.hid p1
    have HP2 := Lib.hid p2
    have HK1 := Lib.hid k1
    have HK2 := Lib.hid k2
    have HK3 := Lib.hid k3
    have HK4 := Lib.hid k4
    have HK5 := Lib.hid k5
    obtain ⟨np, hnp⟩ : ∃ n, t.procs.length = n := ⟨_, rfl⟩
    obtain ⟨ni, hni⟩ : ∃ n, t.init.length = n := ⟨_, rfl⟩
    have HNP := Lib.hid hnp
    have HNI := Lib.hid hni
    obtain ⟨l16, l8, l60⟩ := HT.out.len
    have e1 := H03.out.cell 1
    simp only [List.getElem?_cons_zero, List.getElem?_cons_succ] at e1
    rw [k1, hni, k2, hnp]
    rw [hnp] at e1 l8
    rw [hni] at l16
    clear p1 p2 k1 k2 k3 k4 k5 hnp hni hts
    gi_wp2
    gi_loopw [28] (fun x wr => ∃ (p : Nat) (pre : List Value), x = .int .i64 (p : Int) ∧ p ≤ np ∧ pre.length ≤ L.length ∧ Hid (L.drop pre.length = tprocs t vs ns p (t.procs.drop p)) ∧ Hid (J pre wr) ∧ Hid (KpT n₀ lo w3 wr)) (fun x _ => np - (intOf x).toNat)
    case atStart => exact ⟨0, [], rfl, Nat.zero_le _, Nat.zero_le _, HLS.out, HJ3.out, KpT.refl _ _ _⟩
    case round =>
      clear HJ3 e1
      obtain ⟨p, pre, hx, hp, hpl, HD, HJR, HKR⟩ := hrel
      subst hx
      have HNR : Hid (n₀ ≤ wr.heap.size) := Nat.le_trans HN3.out HKR.out.below.size
      by_cases hpn : p < np
      · have hi2p : (p : Int) < (np : Int) := by omega
        have hi0p : (0 : Int) ≤ (p : Int) := by omega
        have hwip : IntKind.i64.wrap (p : Int) = (p : Int) := by rw [IntKind.wrap_i64]; omega
        have hwjp : IntKind.i64.wrap ((p : Int) + 1) = (p : Int) + 1 := by rw [IntKind.wrap_i64]; omega
        have hpp : p < t.procs.length := by rw [HNP.out]; exact hpn
        have hpn2 : p < ns.length := by rw [HK2.out, HNP.out]; exact hpn
        have hlt := inAll_at HK4.out hpn2 hpp
        obtain ⟨kx, hkx⟩ : ∃ k, ns[p] = k := ⟨_, rfl⟩
        have hk2 : kx ≤ 20000 := by rw [← hkx]; exact HK5.out _ (List.getElem_mem hpn2)
        have hwk : IntKind.i64.wrap (kx : Int) = (kx : Int) := by rw [IntKind.wrap_i64]; omega
        rw [hkx] at hlt
        obtain ⟨gv, ov, cv, xx, he, hxv, hcv⟩ := (KpT.rowI HR2.out HKR.out).row.at1 hpn2
        injection he with he _ hec
        subst he hec
        rw [List.getElem?_map, List.getElem?_eq_getElem hpn2, hkx] at hxv
        injection hxv with hxv
        have hxv : natV kx = xx := hxv
        subst hxv
        replace hcv : wr.cell? ⟨gv, ov + p, none⟩ = some (.int .i64 (kx : Int)) := hcv
        have hkeep := HKR.out.keep HP0.out
        obtain ⟨gp, op, cp2, c, he, hG, hr⟩ := (HP1.out.up hkeep).atN oneTProc (LsF.up (fun _ _ => oneTProc.up hkeep) _ HP2.out) hpp
        injection he with he _ hec
        subst he hec
        obtain ⟨v9, f9, rfl, r9, g9⟩ := hG
        obtain ⟨gn, on, cn, c, he, hGn, hrn⟩ := r9.atN oneTNode g9 hlt
        subst he
        obtain ⟨x, hx⟩ : ∃ x, t.procs[p][kx] = x := ⟨_, rfl⟩
        rw [hx] at hGn
        obtain ⟨va, fa, rfl, ra, ga⟩ := hGn
        have hcp := hr 0 (.slice (some ⟨gn, on, none⟩) t.procs[p].length cn) rfl
        rw [Nat.add_zero, Nat.mul_one] at hcp
        have hone : ([va, .bool x.fin, .bool x.prog, .bool x.acc] : List Value).all (·.oneCell') = true := by simp [ra.cell1]; simp [Value.oneCell']
        have HR := Lib.hid hrn
        have HZ := Lib.hid (Holds.new wr 61 #[.slice none 0 0, .bool false, .bool false, .bool false])
        have hkz : (kx : Int) < (t.procs[p].length : Int) := by omega
        have hk0 : (0 : Int) ≤ (kx : Int) := by omega
        have hok := (HT.out.procs _ (List.getElem_mem hpp)).2.2
        have hxl : x ∈ t.procs[p] := by rw [← hx]; exact List.getElem_mem hlt
        have HKX : Hid (x.arcs.length ≤ 1000) := Nat.le_trans (mem_le_sum (List.mem_map.2 ⟨x, hxl, rfl⟩)) hok.1
        have HPL60 : Hid (t.procs[p].length ≤ 60) := (HT.out.procs _ (List.getElem_mem hpp)).2.1
        have HOK : Hid (∀ a ∈ x.arcs, OkA t.init.length t.procs[p].length a) := hok.2 x hxl
        have HD0 : Hid (L.drop pre.length = tarcs t vs ns p t.procs[p] x 0 x.arcs ++ tprocs t vs ns (p + 1) (t.procs.drop (p + 1))) := by
          show _ = _
          rw [HD.out]
          refine tprocs_at hpp ?_
          rw [List.getD_eq_getElem?_getD, List.getElem?_eq_getElem hpn2, hkx, Option.getD_some, List.getElem?_eq_getElem hlt, hx]
        obtain ⟨lp, hlp⟩ : ∃ l, t.procs[p] = l := ⟨_, rfl⟩
        have HLP := Lib.hid hlp
        have HROW := Lib.hid r9
        have HROF := Lib.hid g9
        rw [hlp] at HD0 HOK HROW HROF hkz hcp HPL60
        obtain ⟨zl, hzl⟩ : ∃ z, lp.length = z := ⟨_, rfl⟩
        have HZL := Lib.hid hzl
        rw [hzl] at hkz hcp
        obtain ⟨aa, ac, rfl, hac, hac2, _⟩ := ra.form
        obtain ⟨K, hK⟩ : ∃ K, x.arcs.length = K := ⟨_, rfl⟩
        have HKK := Lib.hid hK
        have HRA := Lib.hid ra
        have HGA := Lib.hid ga
        clear hok hxl hx hlp hzl hK r9 g9 ra ga hr hrn hkeep hlt hkx HD
        gi_wp2_with (first | (refine wpListIn_load_mid rfl 61 _ rfl gn (on + kx * 4) rfl [.slice aa x.arcs.length ac, .bool x.fin, .bool x.prog, .bool x.acc] _ HR.out Try.underlying61 rfl sz_TNode ?_) | (refine wpListIn_storeB rfl 61 _ _ rfl wr.heap.size 0 [.slice aa x.arcs.length ac, .bool x.fin, .bool x.prog, .bool x.acc] rfl rfl HZ.out (Nat.le_of_ble_eq_true rfl) sz_TNode hone ?_))
        refine Named.mk (fun w5 hW5 => ?_)
        have hb5 : Below wr.heap.size wr w5 := by rw [hW5]; exact Below.far (Below.refl _ _) (Nat.le_refl _) _ _ _
        have H9 : Hid (Holds w5 wr.heap.size 61 [.slice aa x.arcs.length ac, .bool x.fin, .bool x.prog, .bool x.acc]) := HZ.out.stored hW5 (Nat.le_of_ble_eq_true rfl)
        have HK35 : Hid (KpT n₀ lo w3 w5) := HKR.out.trans (KpT.fresh hb5 HNR.out)
        have HJ5 := Lib.hid (abide_below HJJ.out hb5 HJR.out)
        have HRA5 := Lib.hid (HRA.out.up (Keep.below hb5))
        have HGA5 := Lib.hid (LsF.up (fun _ _ => oneTArc.up (Keep.below hb5)) _ HGA.out)
        have HROW5 := Lib.hid (HROW.out.up (Keep.below hb5))
        have HROF5 := Lib.hid (LsF.up (fun _ _ => oneTNode.up (Keep.below hb5)) _ HROF.out)
        have HN5 : Hid (n₀ ≤ w5.heap.size) := Nat.le_trans HNR.out hb5.size
        obtain ⟨b9, hb9⟩ : ∃ b, wr.heap.size = b := ⟨_, rfl⟩
        rw [hb9] at H9 ⊢
        have e9 := H9.out.cell 0
        simp only [List.getElem?_cons_zero, List.getElem?_cons_succ] at e9
        rw [HKK.out] at e9
        clear hW5 hb5 hb9 hone HZ HR hcp hcv HRA HGA HROW HROF HJR HKR HNR
        gi_wp2
        obtain ⟨wo, rfl⟩ : ∃ W, W = wr := ⟨_, rfl⟩
        obtain ⟨preO, rfl⟩ : ∃ l, l = pre := ⟨_, rfl⟩
        gi_loopw [43] (fun y wr => ∃ (k : Nat) (pre : List Value), y = .int .i64 (k : Int) ∧ k ≤ K ∧ pre.length ≤ L.length ∧ Hid (L.drop pre.length = tarcs t vs ns p lp x k (x.arcs.drop k) ++ tprocs t vs ns (p + 1) (t.procs.drop (p + 1))) ∧ Hid (J pre wr) ∧ Hid (KpT n₀ lo w5 wr)) (fun y _ => K - (intOf y).toNat)
        case atStart => exact ⟨0, preO, rfl, Nat.zero_le _, hpl, HD0.out, HJ5.out, KpT.refl _ _ _⟩
        case round =>
          clear HJ5 e9 HD0 hpl
          obtain ⟨k, pre, hy, hk, hpl, HD, HJR, HKR⟩ := hrel
          subst hy
          have HNR : Hid (n₀ ≤ wr.heap.size) := Nat.le_trans HN5.out HKR.out.below.size
          by_cases hkn : k < K
          · have hi2k : (k : Int) < (K : Int) := by omega
            have hi0k : (0 : Int) ≤ (k : Int) := by omega
            have hK1000 : K ≤ 1000 := by have := HKX.out; have := HKK.out; omega
            have hwik : IntKind.i64.wrap (k : Int) = (k : Int) := by rw [IntKind.wrap_i64]; omega
            have hwjk : IntKind.i64.wrap ((k : Int) + 1) = (k : Int) + 1 := by rw [IntKind.wrap_i64]; omega
            have hkl : k < x.arcs.length := by rw [HKK.out]; exact hkn
            have hkeep := HKR.out.keep HP0.out
            obtain ⟨ga, oa, ca, c, he, hG, hr⟩ := (HRA5.out.up hkeep).atN oneTArc (LsF.up (fun _ _ => oneTArc.up hkeep) _ HGA5.out) hkl
            injection he with he _ hec
            subst he hec
            have hG : c = _ := hG
            subst hG
            have hat := tarcs_at (t := t) (vs := vs) (ns := ns) (p := p) (l := lp) (x := x) hkl k
            have hoka := HOK.out _ (List.getElem_mem hkl)
            obtain ⟨a, ha⟩ : ∃ a, x.arcs[k] = a := ⟨_, rfl⟩
            rw [ha] at hr hat hoka
            have HRA1 := Lib.hid hr
            have HAT := Lib.hid hat
            obtain ⟨d', te, ob, va, pu, so, st, bad⟩ := a
            obtain ⟨d, hd⟩ : ∃ d : Nat, d' = (d : Int) := ⟨d'.toNat, by have := hoka.dst.1; simp only at this; omega⟩
            subst hd
            have hOKA := Lib.hid hoka
            simp only [tarcC] at HRA1
            have HZ := Lib.hid (Holds.new wr 64 #[.int .i64 0, .bool false, .int .i64 0, .int .i64 0, .bool false, .int .i64 0, .int .i64 0, .int .i64 0])
            clear hr hat hoka ha hkeep
            gi_wp2_with (first | (refine wpListIn_load_mid rfl 64 _ rfl ga (oa + k * 8) rfl [.int .i64 (d : Int), .bool te, .int .i64 ob, .int .i64 va, .bool pu, .int .i64 so, .int .i64 st, .int .i64 bad] _ HRA1.out Try.underlying64 rfl sz_TArc ?_) | (refine wpListIn_storeB rfl 64 _ _ rfl wr.heap.size 0 [.int .i64 (d : Int), .bool te, .int .i64 ob, .int .i64 va, .bool pu, .int .i64 so, .int .i64 st, .int .i64 bad] rfl rfl HZ.out (Nat.le_of_ble_eq_true rfl) sz_TArc rfl ?_))
            refine Named.mk (fun w7 hW7 => ?_)
            have hb7 : Below wr.heap.size wr w7 := by rw [hW7]; exact Below.far (Below.refl _ _) (Nat.le_refl _) _ _ _
            have h11 : Holds w7 wr.heap.size 64 [.int .i64 (d : Int), .bool te, .int .i64 ob, .int .i64 va, .bool pu, .int .i64 so, .int .i64 st, .int .i64 bad] := HZ.out.stored hW7 (Nat.le_of_ble_eq_true rfl)
            obtain ⟨b11, hb11⟩ : ∃ b, wr.heap.size = b := ⟨_, rfl⟩
            have HG11 : Hid (wr.heap.size ≤ b11) := Nat.le_of_eq hb11
            rw [hb11] at h11 ⊢
            have H11 := Lib.hid h11
            have HB7 := Lib.hid hb7
            have f1 := h11.cell 1
            have f2 := h11.cell 2
            have f3 := h11.cell 3
            simp only [List.getElem?_cons_zero, List.getElem?_cons_succ] at f1 f2 f3
            clear hW7 hb7 h11 hb11 HZ HRA1
            gi_wp2
            refine wpIn_wide.2 ?_
            cases te with
            | false =>
              have HTG : Hid (tgoes vs ⟨(d : Int), false, ob, va, pu, so, st, bad⟩ = true) := rfl
              obtain ⟨hpl2, hla, hdn⟩ := drop_cons (HD.out.trans (by rw [HAT.out, if_pos HTG.out]; rfl))
              have HLA := Lib.hid hla
              have HDN := Lib.hid hdn
              clear hla hdn
              go_quiet (fail)
              obtain ⟨w8, hw8⟩ : ∃ W, W = w7.drewN nq := ⟨_, rfl⟩
              rw [← hw8]
              have HB8 : Hid (Below wr.heap.size wr w8) := by rw [hw8]; exact ((Fr.of_below HB7.out (fun _ => False)).drewN nq).to_below (Nat.le_refl _) fun _ _ h => h
              have H118 : Hid (Holds w8 b11 64 [.int .i64 (d : Int), .bool false, .int .i64 ob, .int .i64 va, .bool pu, .int .i64 so, .int .i64 st, .int .i64 bad]) := by rw [hw8]; exact H11.out.of_eq rfl
              have hk3r := HK35.out.trans HKR.out
              have H08 := Lib.hid ((KpT.thr H03.out hk3r).belowAll HB8.out)
              have H98 := Lib.hid ((KpT.node H9.out HKR.out).belowAll HB8.out)
              have HV8 := Lib.hid ((HV3.out.up (hk3r.keep HP0.out)).up (Keep.below HB8.out))
              have HROW8 := Lib.hid ((HROW5.out.up (HKR.out.keep HP0.out)).up (Keep.below HB8.out))
              have HROF8 := Lib.hid (LsF.up (fun _ _ => oneTNode.up (Keep.below HB8.out)) _ (LsF.up (fun _ _ => oneTNode.up (HKR.out.keep HP0.out)) _ HROF5.out))
              clear hw8 hk3r H11 HB7 f1 f2 f3
              have HRG0 := Lib.hid (H08.out.range (i := 0) (n := 3) (xs := [vi, .slice (some ⟨gp, op, none⟩) t.procs.length cp, vq]) rfl)
              have HRG9 := Lib.hid (H98.out.range (i := 0) (n := 4) (xs := [.slice (some ⟨ga, oa, none⟩) x.arcs.length ac, .bool x.fin, .bool x.prog, .bool x.acc]) rfl)
              have HRG11 := Lib.hid (H118.out.range (i := 0) (n := 8) (xs := [.int .i64 (d : Int), .bool false, .int .i64 ob, .int .i64 va, .bool pu, .int .i64 so, .int .i64 st, .int .i64 bad]) rfl)
              have HFT := footFn (a := ⟨(d : Int), false, ob, va, pu, so, st, bad⟩) (x := x) (va := .slice (some ⟨ga, oa, none⟩) x.arcs.length ac) HV8.out HT.out.len.2.2 HROW8.out HROF8.out rfl hOKA.out.dst
              rw [HZL.out, HNP.out] at HFT
              have HFT := Lib.hid HFT
              gi_wp2_with (first | (refine wpListIn_load_mid rfl 66 _ rfl b0 0 rfl [vi, .slice (some ⟨gp, op, none⟩) t.procs.length cp, vq] _ HRG0.out Try.underlying66 rfl sz_Thr ?_) | (refine wpListIn_load_mid rfl 61 _ rfl b9 0 rfl [.slice (some ⟨ga, oa, none⟩) x.arcs.length ac, .bool x.fin, .bool x.prog, .bool x.acc] _ HRG9.out Try.underlying61 rfl sz_TNode ?_) | (refine wpListIn_load_mid rfl 64 _ rfl b11 0 rfl [.int .i64 (d : Int), .bool false, .int .i64 ob, .int .i64 va, .bool pu, .int .i64 so, .int .i64 st, .int .i64 bad] _ HRG11.out Try.underlying64 rfl sz_TArc ?_))
              refine ⟨trivial, no_depth, ?_⟩
              rw [HNP.out]
              refine (callsIn_wide.2 HFT.out).mono ?_
              rintro e W9 ⟨hb9, vr, vw, rfl, hrx, hwx⟩
              obtain ⟨tu, htu⟩ : ∃ z, tfootT t lp x ⟨(d : Int), false, ob, va, pu, so, st, bad⟩ = z := ⟨_, rfl⟩
              have HTU := Lib.hid htu
              rw [htu]
              obtain ⟨a3, c3, rfl, _, _, _⟩ := hrx.2.form
              obtain ⟨a4, c4, rfl, _, _, _⟩ := hwx.2.form
              obtain ⟨n3, hn3⟩ : ∃ z, (footR ⟨(d : Int), false, ob, va, pu, so, st, bad⟩).length = z := ⟨_, rfl⟩
              obtain ⟨n4, hn4⟩ : ∃ z, (footW ⟨(d : Int), false, ob, va, pu, so, st, bad⟩).length = z := ⟨_, rfl⟩
              rw [hn3] at hrx ⊢
              rw [hn4] at hwx ⊢
              have HRX := Lib.hid hrx
              have HWX := Lib.hid hwx
              have HB9 : Hid (Below wr.heap.size wr W9) := HB8.out.trans (hb9.mono HB8.out.size)
              have HSZ : Hid (wr.heap.size ≤ w8.heap.size) := HB8.out.size
              have H119 := Lib.hid (H118.out.belowAll hb9)
              have HZ12 : Hid (Holds (W9.alloc (.cells #[.slice none 0 0, .slice none 0 0, .int .u64 0] 25)) W9.heap.size 25 [.slice none 0 0, .slice none 0 0, .int .u64 0]) := Holds.new W9 25 #[.slice none 0 0, .slice none 0 0, .int .u64 0]
              clear HFT hb9 hrx hwx htu hn3 hn4 HRG0 HRG9 HRG11 HV8 HROW8 HROF8 H08 H98 H118 HB8
              gi_wp2_with (refine wpListIn_storeB rfl 25 _ _ rfl W9.heap.size 0 [.slice a3 n3 c3, .slice a4 n4 c4, .int .u64 (tu : Int)] rfl rfl HZ12.out (Nat.le_of_ble_eq_true rfl) sz_Foot rfl ?_)
              refine Named.mk (fun W10 hW10 => ?_)
              have hb10 : Below W9.heap.size W9 W10 := by rw [hW10]; exact Below.far (Below.refl _ _) (Nat.le_refl _) _ _ _
              have h12 : Holds W10 W9.heap.size 25 [.slice a3 n3 c3, .slice a4 n4 c4, .int .u64 (tu : Int)] := HZ12.out.stored hW10 (Nat.le_of_ble_eq_true rfl)
              have h1110 := H119.out.belowAll hb10
              have y0 := h12.cell 0
              have y1 := h12.cell 1
              have y2 := h12.cell 2
              have y7 := h1110.cell 7
              simp only [List.getElem?_cons_zero, List.getElem?_cons_succ] at y0 y1 y2 y7
              have HB10 : Hid (Below wr.heap.size wr W10) := HB9.out.trans (hb10.mono HB9.out.size)
              have H1110 := Lib.hid h1110
              have HR10 := Lib.hid (HRX.out.below hb10)
              have HW10 := Lib.hid (HWX.out.below hb10)
              have HZ13 : Hid (Holds (W10.alloc (.cells #[.int .i64 0, .int .i64 0, .int .i64 0, .int .i64 0, .string ⟨#[]⟩, .int .i64 0, .slice none 0 0, .slice none 0 0, .int .u64 0] 44)) W10.heap.size 44 [.int .i64 0, .int .i64 0, .int .i64 0, .int .i64 0, .string ⟨#[]⟩, .int .i64 0, .slice none 0 0, .slice none 0 0, .int .u64 0]) := Holds.new W10 44 #[.int .i64 0, .int .i64 0, .int .i64 0, .int .i64 0, .string ⟨#[]⟩, .int .i64 0, .slice none 0 0, .slice none 0 0, .int .u64 0]
              obtain ⟨b12, hb12⟩ : ∃ b, W9.heap.size = b := ⟨_, rfl⟩
              rw [hb12] at y0 y1 y2 ⊢
              clear hW10 hb10 h12 h1110 HZ12 HB9 HRX HWX H119 hb12
              gi_wp2_with (refine wpListIn_storeB rfl 44 _ _ rfl W10.heap.size 0 ([.int .i64 (p : Int), .int .i64 (k : Int), .int .i64 (-1), .int .i64 (-1), .string ⟨#[]⟩, .int .i64 bad, .slice a3 n3 c3, .slice a4 n4 c4, .int .u64 (tu : Int)]) rfl rfl HZ13.out (Nat.le_of_ble_eq_true rfl) sz_Move rfl ?_)
              refine Named.mk (fun W11 hW11 => ?_)
              have hb11 : Below W10.heap.size W10 W11 := by rw [hW11]; exact Below.far (Below.refl _ _) (Nat.le_refl _) _ _ _
              have H1311 : Hid (Holds W11 W10.heap.size 44 ([.int .i64 (p : Int), .int .i64 (k : Int), .int .i64 (-1), .int .i64 (-1), .string ⟨#[]⟩, .int .i64 bad, .slice a3 n3 c3, .slice a4 n4 c4, .int .u64 (tu : Int)])) := HZ13.out.stored hW11 (Nat.le_of_ble_eq_true rfl)
              have h1111 := H1110.out.belowAll hb11
              have y7 := h1111.cell 7
              simp only [List.getElem?_cons_zero, List.getElem?_cons_succ] at y7
              have H1111 := Lib.hid h1111
              have HB11 : Hid (Below wr.heap.size wr W11) := HB10.out.trans (hb11.mono HB10.out.size)
              have HR11 := Lib.hid (HR10.out.below hb11)
              have HW11 := Lib.hid (HW10.out.below hb11)
              have HG13' : Hid (wr.heap.size ≤ W10.heap.size) := HB10.out.size
              obtain ⟨b13, hb13⟩ : ∃ b, W10.heap.size = b := ⟨_, rfl⟩
              rw [hb13] at H1311 ⊢
              have HG13 : Hid (wr.heap.size ≤ b13) := by show _ ≤ _; rw [← hb13]; exact HG13'.out
              clear hW11 hb11 h1111 HZ13 HB10 HR10 HW10 H1110 y0 y1 y2 hb13 HG13'
              by_cases hbad : bad = 0
              · have d0 : (bad == 0) = true := by simpa using hbad
                have HBAD := Lib.hid hbad
                clear hbad
                obtain ⟨W12, hW12⟩ : ∃ W, W = W11.alloc (.cells #[.slice a1 ni z1, .slice (some ⟨gv, ov, none⟩) np z2] 22) := ⟨_, rfl⟩
                have hb12 : Below W11.heap.size W11 W12 := by rw [hW12]; exact (Below.refl _ _).alloc (Nat.le_refl _) _
                have hrow : RowL (fun _ => True) W12 1 (.slice (some ⟨W11.heap.size, 0, none⟩) 2 2) 2 [.slice a1 ni z1, .slice (some ⟨gv, ov, none⟩) np z2] := ⟨_, _, rfl, by omega, by omega, rfl, fun h => (by cases h), fun _ => ⟨W11.heap.size, 0, [.slice a1 ni z1, .slice (some ⟨gv, ov, none⟩) np z2], _, rfl, trivial, by rw [hW12]; exact (Holds.new W11 22 #[.slice a1 ni z1, .slice (some ⟨gv, ov, none⟩) np z2]).r, fun j hj => by simp⟩⟩
                have hk12 : KpT n₀ lo w3 W12 := (HK35.out.trans HKR.out).trans (KpT.fresh (HB11.out.trans (hb12.mono HB11.out.size)) HNR.out)
                have q1 := (KpT.rowI HR1.out hk12).row
                have q2 := (KpT.rowI HR2.out hk12).row
                rw [HK1.out, HNI.out] at q1
                rw [HK2.out, HNP.out] at q2
                have HCO := Lib.hid (concatFn hrow q1 q2 (nat_one _) (nat_one _) (by omega) (by omega))
                have HB12 : Hid (Below wr.heap.size wr W12) := HB11.out.trans (hb12.mono HB11.out.size)
                have H1312 := Lib.hid (H1311.out.belowAll hb12)
                have H1112 := Lib.hid (H1111.out.belowAll hb12)
                have HR12 := Lib.hid (HR11.out.below hb12)
                have HW12 := Lib.hid (HW11.out.below hb12)
                clear hb12 hrow hk12 q1 q2 H1311 H1111 HR11 HW11 HB11
                gi_wp2
                rw [← hW12]
                refine ⟨trivial, no_depth, ?_⟩
                refine (callsIn_wide.2 HCO.out).mono ?_
                rintro e W13 ⟨hb13, v, rfl, hown⟩
                obtain ⟨g, cap, cs, rfl, hcap, hge, hbox, hcl, hct⟩ := owns_box hown (by omega)
                have HO13 : Hid (W13.ownsRow W12.heap.size 3 1 (.slice (some ⟨g, 0, none⟩) (ni + np) cap) (ni + np) ((vs ++ ns).map natV)) := by rw [List.map_append]; exact hown
                have HGG : Hid (W12.heap.size ≤ g) := hge
                have HBC13 := Lib.hid hb13
                have HBX := Lib.hid hbox
                have HCL : Hid (ni + np ≤ cs.length) := by show _ ≤ _; omega
                obtain ⟨q, hq⟩ : ∃ z, ni + p = z := ⟨_, rfl⟩
                have HQ := Lib.hid hq
                have hwq : IntKind.i64.wrap ((ni : Int) + (p : Int)) = (q : Int) := by rw [IntKind.wrap_i64]; omega
                have hwq2 : IntKind.i64.wrap (q : Int) = (q : Int) := by rw [IntKind.wrap_i64]; omega
                have hq1 : (q : Int) < ((ni + np : Nat) : Int) := by omega
                have hq1' : (q : Int) < (ni : Int) + (np : Int) := by omega
                have hq0 : (0 : Int) ≤ (q : Int) := by omega
                have hqlt : q < ni + np := by omega
                have HQL := Lib.hid hqlt
                have h1113 := H1112.out.belowAll hb13
                have y00 := h1113.cell 0
                simp only [List.getElem?_cons_zero, List.getElem?_cons_succ] at y00
                clear HCO hW12 hown hge hbox hcl hct hb13 h1113 y7
                gi_wp2_with (refine wpListIn_store1 rfl 3 _ _ rfl g q (.int .i64 (d : Int)) rfl rfl HBX.out (by have := HCL.out; omega) sz_Int' rfl rfl ?_)
                refine Named.mk (fun W15 hW15 => ?_)
                have hf15 : Fr (fun z => z = g) W13 W15 := by rw [hW15]; exact Fr.setRX _ _ q _
                have HO15 : Hid (W15.ownsRow W12.heap.size 3 1 (.slice (some ⟨g, 0, none⟩) (ni + np) cap) (ni + np) (((vs ++ ns).set q d).map natV)) := owns_set HO13.out HQL.out hW15
                have HBC15 : Hid (Below W12.heap.size W12 W15) := HBC13.out.trans (hf15.to_below HBC13.out.size fun z hz e => by have := HGG.out; have e : z = g := e; omega)
                have HBND : Hid (∀ z ∈ (vs ++ ns).set q d, z < 9223372036854775808) := fun z hz => by
                  rcases List.mem_or_eq_of_mem_set hz with hz | rfl
                  · rcases List.mem_append.1 hz with hz | hz
                    · have := HK3.out _ hz; omega
                    · have := HK5.out _ hz; omega
                  · have h1 := hOKA.out.dst.2
                    simp only at h1
                    have h2 := HPL60.out
                    omega
                have h1115' := H1112.out.belowAll HBC15.out
                have y4 := h1115'.cell 4
                simp only [List.getElem?_cons_zero, List.getElem?_cons_succ] at y4
                clear hW15 hf15 y00 HBX HO13 HBC13 HCL h1115'
                cases pu with
                | true =>
                  obtain ⟨so', hso⟩ : ∃ z : Nat, so = (z : Int) := ⟨so.toNat, by have := (hOKA.out.put rfl).1.1; simp only at this; omega⟩
                  obtain ⟨st', hst⟩ : ∃ z : Nat, st = (z : Int) := ⟨st.toNat, by have := (hOKA.out.put rfl).2.1; simp only at this; omega⟩
                  subst hso
                  subst hst
                  have hso2 : so' < ni := by have := (hOKA.out.put rfl).1.2; simp only at this; have := HNI.out; omega
                  have hso3 : (so' : Int) < ((ni + np : Nat) : Int) := by omega
                  have hso3' : (so' : Int) < (ni : Int) + (np : Int) := by omega
                  have hso0 : (0 : Int) ≤ (so' : Int) := by omega
                  have hst2 : st' ≤ 255 := by have := (hOKA.out.put rfl).2.2; simp only at this; omega
                  have HST2 := Lib.hid hst2
                  have hws : IntKind.i64.wrap (so' : Int) = (so' : Int) := by rw [IntKind.wrap_i64]; omega
                  have h1115 := H1112.out.belowAll HBC15.out
                  have x5 := h1115.cell 5
                  have x6 := h1115.cell 6
                  simp only [List.getElem?_cons_zero, List.getElem?_cons_succ] at x5 x6
                  obtain ⟨cs15, hh15, hl15⟩ := owns_int HO15.out
                  have HH15 := Lib.hid hh15
                  clear hh15 h1115
                  gi_wp2_with (refine wpListIn_store1 rfl 3 _ _ rfl g so' (.int .i64 (st' : Int)) rfl rfl HH15.out (by omega) sz_Int' rfl rfl ?_)
                  refine Named.mk (fun W16 hW16 => ?_)
                  have hf16 : Fr (fun z => z = g) W15 W16 := by rw [hW16]; exact Fr.setRX _ _ so' _
                  have HO16 : Hid (W16.ownsRow W12.heap.size 3 1 (.slice (some ⟨g, 0, none⟩) (ni + np) cap) (ni + np) ((((vs ++ ns).set q d).set so' st').map natV)) := owns_set HO15.out (by omega) hW16
                  have HBC16 : Hid (Below W12.heap.size W12 W16) := HBC15.out.trans (hf16.to_below HBC15.out.size fun z hz e => by have := HGG.out; have e : z = g := e; omega)
                  clear hW16 hf16 x5 x6 HH15
                  have HLEN : Hid ((((vs ++ ns).set q d).set so' st').length = ni + np) := by show _ = _; simp [HK1.out, HK2.out, HNI.out, HNP.out]
                  have HBY := bytesFn (P := From W12.heap.size) (w := W16) (l := (((vs ++ ns).set q d).set so' st')) (v := .slice (some ⟨g, 0, none⟩) (ni + np) cap) (by rw [HLEN.out]; exact RowL.of_owns HO16.out fun _ h => h) (fun z hz => by
                    rcases List.mem_or_eq_of_mem_set hz with hz | rfl
                    · exact HBND.out _ hz
                    · have := HST2.out; omega) (by rw [HLEN.out]; omega)
                  have HBY := Lib.hid HBY
                  gi_wp2
                  refine ⟨trivial, no_depth, ?_⟩
                  refine (callsIn_wide.2 HBY.out).mono ?_
                  rintro e W17 ⟨rfl, hb17⟩
                  have HBC17 : Hid (Below W12.heap.size W12 W17) := HBC16.out.trans (hb17.mono HBC16.out.size)
                  have H1317 := Lib.hid (H1312.out.belowAll HBC17.out)
                  have HR17 := Lib.hid (HR12.out.below HBC17.out)
                  have HW17 := Lib.hid (HW12.out.below HBC17.out)
                  clear HBY hb17
                  obtain ⟨S, hS⟩ : ∃ S : ByteArray, (⟨(encs (((vs ++ ns).set q d).set so' st')).toArray⟩ : ByteArray) = S := ⟨_, rfl⟩
                  rw [hS]
                  gi_wp2_with (refine wpListIn_store1 rfl 9 _ _ rfl b13 4 (.string S) rfl rfl H1317.out (Nat.le_of_ble_eq_true rfl) sz_Str rfl rfl ?_)
                  refine Named.mk (fun W18 hW18 => ?_)
                  have hf18 : Fr (fun z => z = b13) W17 W18 := by rw [hW18]; exact Fr.setRX _ _ 4 _
                  have H1318 : Hid (Holds W18 b13 44 ([.int .i64 (p : Int), .int .i64 (k : Int), .int .i64 (-1), .int .i64 (-1), .string S, .int .i64 bad, .slice a3 n3 c3, .slice a4 n4 c4, .int .u64 (tu : Int)])) := H1317.out.stored hW18 (Nat.le_of_ble_eq_true rfl)
                  have HB18 : Hid (Below wr.heap.size wr W18) := (HB12.out.trans (HBC17.out.mono HB12.out.size)).trans (hf18.to_below (Nat.le_trans HB12.out.size HBC17.out.size) fun z hz e => by have := HG13.out; have e : z = b13 := e; omega)
                  have HR18 := Lib.hid (RowX.of_fr HR17.out hf18 H1317.out (by decide))
                  have HW18 := Lib.hid (RowX.of_fr HW17.out hf18 H1317.out (by decide))
                  have HSS : Hid ((if bad = 0 then bytesOf (tdst vs.length vs ns p ⟨(d : Int), false, ob, va, true, (so' : Int), (st' : Int), bad⟩) else ⟨#[]⟩) = S) := by
                    show _ = _
                    rw [if_pos HBAD.out, ← hS]
                    unfold bytesOf tdst
                    simp [HK1.out, HNI.out, HQ.out]
                  clear hW18 hf18 H1317 hS
                  have HTE : Hid (Tells L pre (.agg ([.int .i64 (p : Int), .int .i64 (k : Int), .int .i64 (-1), .int .i64 (-1), .string S, .int .i64 bad, .slice a3 n3 c3, .slice a4 n4 c4, .int .u64 (tu : Int)] : List Value).toArray) wr W18) := by
                    refine ⟨hpl2, .slice a3 n3 c3, .slice a4 n4 c4, ?_, ?_, ?_⟩
                    · rw [HLA.out]
                      unfold tmove
                      rw [HTU.out, HSS.out]
                      rfl
                    · rw [HLA.out]
                      exact HR18.out.wide HSZ.out
                    · rw [HLA.out]
                      exact HW18.out.wide HSZ.out
                  obtain ⟨fn, tmps, assign, body, hy, hR⟩ := HYY.out pre (.agg ([.int .i64 (p : Int), .int .i64 (k : Int), .int .i64 (-1), .int .i64 (-1), .string S, .int .i64 bad, .slice a3 n3 c3, .slice a4 n4 c4, .int .u64 (tu : Int)] : List Value).toArray) wr W18 HJR.out HB18.out (abide_below HJJ.out HB18.out HJR.out) HTE.out hpl2
                  have HRGM := Lib.hid (H1318.out.range (i := 0) (n := 9) (xs := [.int .i64 (p : Int), .int .i64 (k : Int), .int .i64 (-1), .int .i64 (-1), .string S, .int .i64 bad, .slice a3 n3 c3, .slice a4 n4 c4, .int .u64 (tu : Int)]) rfl)
                  have HRY := Lib.hid hR
                  clear hR
                  gi_wp2_with (refine wpListIn_load_mid rfl 44 _ rfl b13 0 rfl ([.int .i64 (p : Int), .int .i64 (k : Int), .int .i64 (-1), .int .i64 (-1), .string S, .int .i64 bad, .slice a3 n3 c3, .slice a4 n4 c4, .int .u64 (tu : Int)]) _ HRGM.out Try.underlying44 rfl sz_Move ?_)
                  refine ⟨no_depth, ?_⟩
                  refine HRY.out.mono ?_
                  rintro e wy (⟨rfl, hjy, hky⟩ | ⟨rfl, hjx⟩)
                  · have HJY : Hid (J (pre ++ [.agg ([.int .i64 (p : Int), .int .i64 (k : Int), .int .i64 (-1), .int .i64 (-1), .string S, .int .i64 bad, .slice a3 n3 c3, .slice a4 n4 c4, .int .u64 (tu : Int)] : List Value).toArray]) wy) := hjy
                    have HKY : Hid (KpT n₀ lo w5 wy) := HKR.out.trans ((KpT.fresh HB18.out HNR.out).trans hky)
                    clear hjy hky hy
                    gi_wp2
                    go_roundw
                    case rel => exact ⟨k + 1, _, by simp, by omega, by rw [List.length_append]; exact hpl2, by rw [List.length_append]; exact HDN.out, HJY, HKY⟩
                    case measure => simp [intOf]; omega
                  · have HJX : Hid (Jx (pre ++ [.agg ([.int .i64 (p : Int), .int .i64 (k : Int), .int .i64 (-1), .int .i64 (-1), .string S, .int .i64 bad, .slice a3 n3 c3, .slice a4 n4 c4, .int .u64 (tu : Int)] : List Value).toArray]) wy) := hjx
                    clear hjx hy
                    gi_wp2
                    refine bodyPost_ret (results_none rfl _ _ _) rfl ?_
                    exact ⟨⟨_, rfl⟩, .inr ⟨_, trivial, HJX.out⟩⟩
                | false =>
                  have HLEN : Hid (((vs ++ ns).set q d).length = ni + np) := by show _ = _; simp [HK1.out, HK2.out, HNI.out, HNP.out]
                  have HBY := bytesFn (P := From W12.heap.size) (w := W15) (l := ((vs ++ ns).set q d)) (v := .slice (some ⟨g, 0, none⟩) (ni + np) cap) (by rw [HLEN.out]; exact RowL.of_owns HO15.out fun _ h => h) (fun z hz => by
                    exact HBND.out _ hz) (by rw [HLEN.out]; omega)
                  have HBY := Lib.hid HBY
                  gi_wp2
                  refine ⟨trivial, no_depth, ?_⟩
                  refine (callsIn_wide.2 HBY.out).mono ?_
                  rintro e W17 ⟨rfl, hb17⟩
                  have HBC17 : Hid (Below W12.heap.size W12 W17) := HBC15.out.trans (hb17.mono HBC15.out.size)
                  have H1317 := Lib.hid (H1312.out.belowAll HBC17.out)
                  have HR17 := Lib.hid (HR12.out.below HBC17.out)
                  have HW17 := Lib.hid (HW12.out.below HBC17.out)
                  clear HBY hb17
                  obtain ⟨S, hS⟩ : ∃ S : ByteArray, (⟨(encs ((vs ++ ns).set q d)).toArray⟩ : ByteArray) = S := ⟨_, rfl⟩
                  rw [hS]
                  gi_wp2_with (refine wpListIn_store1 rfl 9 _ _ rfl b13 4 (.string S) rfl rfl H1317.out (Nat.le_of_ble_eq_true rfl) sz_Str rfl rfl ?_)
                  refine Named.mk (fun W18 hW18 => ?_)
                  have hf18 : Fr (fun z => z = b13) W17 W18 := by rw [hW18]; exact Fr.setRX _ _ 4 _
                  have H1318 : Hid (Holds W18 b13 44 ([.int .i64 (p : Int), .int .i64 (k : Int), .int .i64 (-1), .int .i64 (-1), .string S, .int .i64 bad, .slice a3 n3 c3, .slice a4 n4 c4, .int .u64 (tu : Int)])) := H1317.out.stored hW18 (Nat.le_of_ble_eq_true rfl)
                  have HB18 : Hid (Below wr.heap.size wr W18) := (HB12.out.trans (HBC17.out.mono HB12.out.size)).trans (hf18.to_below (Nat.le_trans HB12.out.size HBC17.out.size) fun z hz e => by have := HG13.out; have e : z = b13 := e; omega)
                  have HR18 := Lib.hid (RowX.of_fr HR17.out hf18 H1317.out (by decide))
                  have HW18 := Lib.hid (RowX.of_fr HW17.out hf18 H1317.out (by decide))
                  have HSS : Hid ((if bad = 0 then bytesOf (tdst vs.length vs ns p ⟨(d : Int), false, ob, va, false, so, st, bad⟩) else ⟨#[]⟩) = S) := by
                    show _ = _
                    rw [if_pos HBAD.out, ← hS]
                    unfold bytesOf tdst
                    simp [HK1.out, HNI.out, HQ.out]
                  clear hW18 hf18 H1317 hS
                  have HTE : Hid (Tells L pre (.agg ([.int .i64 (p : Int), .int .i64 (k : Int), .int .i64 (-1), .int .i64 (-1), .string S, .int .i64 bad, .slice a3 n3 c3, .slice a4 n4 c4, .int .u64 (tu : Int)] : List Value).toArray) wr W18) := by
                    refine ⟨hpl2, .slice a3 n3 c3, .slice a4 n4 c4, ?_, ?_, ?_⟩
                    · rw [HLA.out]
                      unfold tmove
                      rw [HTU.out, HSS.out]
                      rfl
                    · rw [HLA.out]
                      exact HR18.out.wide HSZ.out
                    · rw [HLA.out]
                      exact HW18.out.wide HSZ.out
                  obtain ⟨fn, tmps, assign, body, hy, hR⟩ := HYY.out pre (.agg ([.int .i64 (p : Int), .int .i64 (k : Int), .int .i64 (-1), .int .i64 (-1), .string S, .int .i64 bad, .slice a3 n3 c3, .slice a4 n4 c4, .int .u64 (tu : Int)] : List Value).toArray) wr W18 HJR.out HB18.out (abide_below HJJ.out HB18.out HJR.out) HTE.out hpl2
                  have HRGM := Lib.hid (H1318.out.range (i := 0) (n := 9) (xs := [.int .i64 (p : Int), .int .i64 (k : Int), .int .i64 (-1), .int .i64 (-1), .string S, .int .i64 bad, .slice a3 n3 c3, .slice a4 n4 c4, .int .u64 (tu : Int)]) rfl)
                  have HRY := Lib.hid hR
                  clear hR
                  gi_wp2_with (refine wpListIn_load_mid rfl 44 _ rfl b13 0 rfl ([.int .i64 (p : Int), .int .i64 (k : Int), .int .i64 (-1), .int .i64 (-1), .string S, .int .i64 bad, .slice a3 n3 c3, .slice a4 n4 c4, .int .u64 (tu : Int)]) _ HRGM.out Try.underlying44 rfl sz_Move ?_)
                  refine ⟨no_depth, ?_⟩
                  refine HRY.out.mono ?_
                  rintro e wy (⟨rfl, hjy, hky⟩ | ⟨rfl, hjx⟩)
                  · have HJY : Hid (J (pre ++ [.agg ([.int .i64 (p : Int), .int .i64 (k : Int), .int .i64 (-1), .int .i64 (-1), .string S, .int .i64 bad, .slice a3 n3 c3, .slice a4 n4 c4, .int .u64 (tu : Int)] : List Value).toArray]) wy) := hjy
                    have HKY : Hid (KpT n₀ lo w5 wy) := HKR.out.trans ((KpT.fresh HB18.out HNR.out).trans hky)
                    clear hjy hky hy
                    gi_wp2
                    go_roundw
                    case rel => exact ⟨k + 1, _, by simp, by omega, by rw [List.length_append]; exact hpl2, by rw [List.length_append]; exact HDN.out, HJY, HKY⟩
                    case measure => simp [intOf]; omega
                  · have HJX : Hid (Jx (pre ++ [.agg ([.int .i64 (p : Int), .int .i64 (k : Int), .int .i64 (-1), .int .i64 (-1), .string S, .int .i64 bad, .slice a3 n3 c3, .slice a4 n4 c4, .int .u64 (tu : Int)] : List Value).toArray]) wy) := hjx
                    clear hjx hy
                    gi_wp2
                    refine bodyPost_ret (results_none rfl _ _ _) rfl ?_
                    exact ⟨⟨_, rfl⟩, .inr ⟨_, trivial, HJX.out⟩⟩
              · have d0 : (bad == 0) = false := by simpa using hbad
                have HBAD : Hid (¬ bad = 0) := hbad
                have HSS : Hid ((if bad = 0 then bytesOf (tdst vs.length vs ns p ⟨(d : Int), false, ob, va, pu, so, st, bad⟩) else ⟨#[]⟩) = ⟨#[]⟩) := by show _ = _; rw [if_neg HBAD.out]
                clear hbad
                have HTE : Hid (Tells L pre (.agg ([.int .i64 (p : Int), .int .i64 (k : Int), .int .i64 (-1), .int .i64 (-1), .string ⟨#[]⟩, .int .i64 bad, .slice a3 n3 c3, .slice a4 n4 c4, .int .u64 (tu : Int)] : List Value).toArray) wr W11) := by
                  refine ⟨hpl2, .slice a3 n3 c3, .slice a4 n4 c4, ?_, ?_, ?_⟩
                  · rw [HLA.out]
                    unfold tmove
                    rw [HTU.out, HSS.out]
                    rfl
                  · rw [HLA.out]
                    exact HR11.out.wide HSZ.out
                  · rw [HLA.out]
                    exact HW11.out.wide HSZ.out
                obtain ⟨fn, tmps, assign, body, hy, hR⟩ := HYY.out pre (.agg ([.int .i64 (p : Int), .int .i64 (k : Int), .int .i64 (-1), .int .i64 (-1), .string ⟨#[]⟩, .int .i64 bad, .slice a3 n3 c3, .slice a4 n4 c4, .int .u64 (tu : Int)] : List Value).toArray) wr W11 HJR.out HB11.out (abide_below HJJ.out HB11.out HJR.out) HTE.out hpl2
                have HRGM := Lib.hid (H1311.out.range (i := 0) (n := 9) (xs := [.int .i64 (p : Int), .int .i64 (k : Int), .int .i64 (-1), .int .i64 (-1), .string ⟨#[]⟩, .int .i64 bad, .slice a3 n3 c3, .slice a4 n4 c4, .int .u64 (tu : Int)]) rfl)
                have HRY := Lib.hid hR
                clear hR
                gi_wp2_with (refine wpListIn_load_mid rfl 44 _ rfl b13 0 rfl ([.int .i64 (p : Int), .int .i64 (k : Int), .int .i64 (-1), .int .i64 (-1), .string ⟨#[]⟩, .int .i64 bad, .slice a3 n3 c3, .slice a4 n4 c4, .int .u64 (tu : Int)]) _ HRGM.out Try.underlying44 rfl sz_Move ?_)
                refine ⟨no_depth, ?_⟩
                refine HRY.out.mono ?_
                rintro e wy (⟨rfl, hjy, hky⟩ | ⟨rfl, hjx⟩)
                · have HJY : Hid (J (pre ++ [.agg ([.int .i64 (p : Int), .int .i64 (k : Int), .int .i64 (-1), .int .i64 (-1), .string ⟨#[]⟩, .int .i64 bad, .slice a3 n3 c3, .slice a4 n4 c4, .int .u64 (tu : Int)] : List Value).toArray]) wy) := hjy
                  have HKY : Hid (KpT n₀ lo w5 wy) := HKR.out.trans ((KpT.fresh HB11.out HNR.out).trans hky)
                  clear hjy hky hy
                  gi_wp2
                  go_roundw
                  case rel => exact ⟨k + 1, _, by simp, by omega, by rw [List.length_append]; exact hpl2, by rw [List.length_append]; exact HDN.out, HJY, HKY⟩
                  case measure => simp [intOf]; omega
                · have HJX : Hid (Jx (pre ++ [.agg ([.int .i64 (p : Int), .int .i64 (k : Int), .int .i64 (-1), .int .i64 (-1), .string ⟨#[]⟩, .int .i64 bad, .slice a3 n3 c3, .slice a4 n4 c4, .int .u64 (tu : Int)] : List Value).toArray]) wy) := hjx
                  clear hjx hy
                  gi_wp2
                  refine bodyPost_ret (results_none rfl _ _ _) rfl ?_
                  exact ⟨⟨_, rfl⟩, .inr ⟨_, trivial, HJX.out⟩⟩
            | true =>
              have hob := hOKA.out.test rfl
              obtain ⟨o, ho⟩ : ∃ z : Nat, ob = (z : Int) := ⟨ob.toNat, by have := hob.1; simp only at this; omega⟩
              subst ho
              have ho2 : o < ni := by have := hob.2; simp only at this; have := HNI.out; omega
              have ho3 : (o : Int) < (ni : Int) := by omega
              have ho0 : (0 : Int) ≤ (o : Int) := by omega
              have hwo : IntKind.i64.wrap (o : Int) = (o : Int) := by rw [IntKind.wrap_i64]; omega
              have hov : o < vs.length := by rw [HK1.out, HNI.out]; exact ho2
              obtain ⟨q, hq⟩ : ∃ q, vs[o] = q := ⟨_, rfl⟩
              obtain ⟨g1, o1, cv1, xx, he, hxv, hcv⟩ := ((KpT.rowI HR1.out (HK35.out.trans HKR.out)).below HB7.out).row.at1 hov
              injection he with he _ hec
              subst he hec
              rw [List.getElem?_map, List.getElem?_eq_getElem hov, hq] at hxv
              injection hxv with hxv
              have hxv : natV q = xx := hxv
              subst hxv
              replace hcv : w7.cell? ⟨g1, o1 + o, none⟩ = some (.int .i64 (q : Int)) := hcv
              have htg : tgoes vs ⟨(d : Int), true, (o : Int), va, pu, so, st, bad⟩ = decide ((q : Int) = va) := by
                unfold tgoes
                simp [List.getElem?_eq_getElem hov, hq]
              clear hq hob
              by_cases hqv : (q : Int) = va
              · have d1 : ((q : Int) == va) = true := by rw [hqv]; exact beq_self_eq_true _
                have d2 : ((q : Int) != va) = false := by rw [bne, d1]; rfl
                have HTG : Hid (tgoes vs ⟨(d : Int), true, (o : Int), va, pu, so, st, bad⟩ = true) := by show _ = _; rw [htg]; exact decide_eq_true hqv
                clear htg hqv
                obtain ⟨hpl2, hla, hdn⟩ := drop_cons (HD.out.trans (by rw [HAT.out, if_pos HTG.out]; rfl))
                have HLA := Lib.hid hla
                have HDN := Lib.hid hdn
                clear hla hdn
                go_quiet (fail)
                clear hcv
                obtain ⟨w8, hw8⟩ : ∃ W, W = w7.drewN nq := ⟨_, rfl⟩
                rw [← hw8]
                have HB8 : Hid (Below wr.heap.size wr w8) := by rw [hw8]; exact ((Fr.of_below HB7.out (fun _ => False)).drewN nq).to_below (Nat.le_refl _) fun _ _ h => h
                have H118 : Hid (Holds w8 b11 64 [.int .i64 (d : Int), .bool true, .int .i64 (o : Int), .int .i64 va, .bool pu, .int .i64 so, .int .i64 st, .int .i64 bad]) := by rw [hw8]; exact H11.out.of_eq rfl
                have hk3r := HK35.out.trans HKR.out
                have H08 := Lib.hid ((KpT.thr H03.out hk3r).belowAll HB8.out)
                have H98 := Lib.hid ((KpT.node H9.out HKR.out).belowAll HB8.out)
                have HV8 := Lib.hid ((HV3.out.up (hk3r.keep HP0.out)).up (Keep.below HB8.out))
                have HROW8 := Lib.hid ((HROW5.out.up (HKR.out.keep HP0.out)).up (Keep.below HB8.out))
                have HROF8 := Lib.hid (LsF.up (fun _ _ => oneTNode.up (Keep.below HB8.out)) _ (LsF.up (fun _ _ => oneTNode.up (HKR.out.keep HP0.out)) _ HROF5.out))
                clear hw8 hk3r H11 HB7 f1 f2 f3
                obtain ⟨ob, hob⟩ : ∃ z : Int, (o : Int) = z := ⟨_, rfl⟩
                rw [hob] at H118 HLA hOKA HTG
                clear hob ho2 ho3 ho0 hwo
                have HRG0 := Lib.hid (H08.out.range (i := 0) (n := 3) (xs := [vi, .slice (some ⟨gp, op, none⟩) t.procs.length cp, vq]) rfl)
                have HRG9 := Lib.hid (H98.out.range (i := 0) (n := 4) (xs := [.slice (some ⟨ga, oa, none⟩) x.arcs.length ac, .bool x.fin, .bool x.prog, .bool x.acc]) rfl)
                have HRG11 := Lib.hid (H118.out.range (i := 0) (n := 8) (xs := [.int .i64 (d : Int), .bool true, .int .i64 ob, .int .i64 va, .bool pu, .int .i64 so, .int .i64 st, .int .i64 bad]) rfl)
                have HFT := footFn (a := ⟨(d : Int), true, ob, va, pu, so, st, bad⟩) (x := x) (va := .slice (some ⟨ga, oa, none⟩) x.arcs.length ac) HV8.out HT.out.len.2.2 HROW8.out HROF8.out rfl hOKA.out.dst
                rw [HZL.out, HNP.out] at HFT
                have HFT := Lib.hid HFT
                gi_wp2_with (first | (refine wpListIn_load_mid rfl 66 _ rfl b0 0 rfl [vi, .slice (some ⟨gp, op, none⟩) t.procs.length cp, vq] _ HRG0.out Try.underlying66 rfl sz_Thr ?_) | (refine wpListIn_load_mid rfl 61 _ rfl b9 0 rfl [.slice (some ⟨ga, oa, none⟩) x.arcs.length ac, .bool x.fin, .bool x.prog, .bool x.acc] _ HRG9.out Try.underlying61 rfl sz_TNode ?_) | (refine wpListIn_load_mid rfl 64 _ rfl b11 0 rfl [.int .i64 (d : Int), .bool true, .int .i64 ob, .int .i64 va, .bool pu, .int .i64 so, .int .i64 st, .int .i64 bad] _ HRG11.out Try.underlying64 rfl sz_TArc ?_))
                refine ⟨trivial, no_depth, ?_⟩
                rw [HNP.out]
                refine (callsIn_wide.2 HFT.out).mono ?_
                rintro e W9 ⟨hb9, vr, vw, rfl, hrx, hwx⟩
                obtain ⟨tu, htu⟩ : ∃ z, tfootT t lp x ⟨(d : Int), true, ob, va, pu, so, st, bad⟩ = z := ⟨_, rfl⟩
                have HTU := Lib.hid htu
                rw [htu]
                obtain ⟨a3, c3, rfl, _, _, _⟩ := hrx.2.form
                obtain ⟨a4, c4, rfl, _, _, _⟩ := hwx.2.form
                obtain ⟨n3, hn3⟩ : ∃ z, (footR ⟨(d : Int), true, ob, va, pu, so, st, bad⟩).length = z := ⟨_, rfl⟩
                obtain ⟨n4, hn4⟩ : ∃ z, (footW ⟨(d : Int), true, ob, va, pu, so, st, bad⟩).length = z := ⟨_, rfl⟩
                rw [hn3] at hrx ⊢
                rw [hn4] at hwx ⊢
                have HRX := Lib.hid hrx
                have HWX := Lib.hid hwx
                have HB9 : Hid (Below wr.heap.size wr W9) := HB8.out.trans (hb9.mono HB8.out.size)
                have HSZ : Hid (wr.heap.size ≤ w8.heap.size) := HB8.out.size
                have H119 := Lib.hid (H118.out.belowAll hb9)
                have HZ12 : Hid (Holds (W9.alloc (.cells #[.slice none 0 0, .slice none 0 0, .int .u64 0] 25)) W9.heap.size 25 [.slice none 0 0, .slice none 0 0, .int .u64 0]) := Holds.new W9 25 #[.slice none 0 0, .slice none 0 0, .int .u64 0]
                clear HFT hb9 hrx hwx htu hn3 hn4 HRG0 HRG9 HRG11 HV8 HROW8 HROF8 H08 H98 H118 HB8
                gi_wp2_with (refine wpListIn_storeB rfl 25 _ _ rfl W9.heap.size 0 [.slice a3 n3 c3, .slice a4 n4 c4, .int .u64 (tu : Int)] rfl rfl HZ12.out (Nat.le_of_ble_eq_true rfl) sz_Foot rfl ?_)
                refine Named.mk (fun W10 hW10 => ?_)
                have hb10 : Below W9.heap.size W9 W10 := by rw [hW10]; exact Below.far (Below.refl _ _) (Nat.le_refl _) _ _ _
                have h12 : Holds W10 W9.heap.size 25 [.slice a3 n3 c3, .slice a4 n4 c4, .int .u64 (tu : Int)] := HZ12.out.stored hW10 (Nat.le_of_ble_eq_true rfl)
                have h1110 := H119.out.belowAll hb10
                have y0 := h12.cell 0
                have y1 := h12.cell 1
                have y2 := h12.cell 2
                have y7 := h1110.cell 7
                simp only [List.getElem?_cons_zero, List.getElem?_cons_succ] at y0 y1 y2 y7
                have HB10 : Hid (Below wr.heap.size wr W10) := HB9.out.trans (hb10.mono HB9.out.size)
                have H1110 := Lib.hid h1110
                have HR10 := Lib.hid (HRX.out.below hb10)
                have HW10 := Lib.hid (HWX.out.below hb10)
                have HZ13 : Hid (Holds (W10.alloc (.cells #[.int .i64 0, .int .i64 0, .int .i64 0, .int .i64 0, .string ⟨#[]⟩, .int .i64 0, .slice none 0 0, .slice none 0 0, .int .u64 0] 44)) W10.heap.size 44 [.int .i64 0, .int .i64 0, .int .i64 0, .int .i64 0, .string ⟨#[]⟩, .int .i64 0, .slice none 0 0, .slice none 0 0, .int .u64 0]) := Holds.new W10 44 #[.int .i64 0, .int .i64 0, .int .i64 0, .int .i64 0, .string ⟨#[]⟩, .int .i64 0, .slice none 0 0, .slice none 0 0, .int .u64 0]
                obtain ⟨b12, hb12⟩ : ∃ b, W9.heap.size = b := ⟨_, rfl⟩
                rw [hb12] at y0 y1 y2 ⊢
                clear hW10 hb10 h12 h1110 HZ12 HB9 HRX HWX H119 hb12
                gi_wp2_with (refine wpListIn_storeB rfl 44 _ _ rfl W10.heap.size 0 ([.int .i64 (p : Int), .int .i64 (k : Int), .int .i64 (-1), .int .i64 (-1), .string ⟨#[]⟩, .int .i64 bad, .slice a3 n3 c3, .slice a4 n4 c4, .int .u64 (tu : Int)]) rfl rfl HZ13.out (Nat.le_of_ble_eq_true rfl) sz_Move rfl ?_)
                refine Named.mk (fun W11 hW11 => ?_)
                have hb11 : Below W10.heap.size W10 W11 := by rw [hW11]; exact Below.far (Below.refl _ _) (Nat.le_refl _) _ _ _
                have H1311 : Hid (Holds W11 W10.heap.size 44 ([.int .i64 (p : Int), .int .i64 (k : Int), .int .i64 (-1), .int .i64 (-1), .string ⟨#[]⟩, .int .i64 bad, .slice a3 n3 c3, .slice a4 n4 c4, .int .u64 (tu : Int)])) := HZ13.out.stored hW11 (Nat.le_of_ble_eq_true rfl)
                have h1111 := H1110.out.belowAll hb11
                have y7 := h1111.cell 7
                simp only [List.getElem?_cons_zero, List.getElem?_cons_succ] at y7
                have H1111 := Lib.hid h1111
                have HB11 : Hid (Below wr.heap.size wr W11) := HB10.out.trans (hb11.mono HB10.out.size)
                have HR11 := Lib.hid (HR10.out.below hb11)
                have HW11 := Lib.hid (HW10.out.below hb11)
                have HG13' : Hid (wr.heap.size ≤ W10.heap.size) := HB10.out.size
                obtain ⟨b13, hb13⟩ : ∃ b, W10.heap.size = b := ⟨_, rfl⟩
                rw [hb13] at H1311 ⊢
                have HG13 : Hid (wr.heap.size ≤ b13) := by show _ ≤ _; rw [← hb13]; exact HG13'.out
                clear hW11 hb11 h1111 HZ13 HB10 HR10 HW10 H1110 y0 y1 y2 hb13 HG13'
                by_cases hbad : bad = 0
                · have d0 : (bad == 0) = true := by simpa using hbad
                  have HBAD := Lib.hid hbad
                  clear hbad
                  obtain ⟨W12, hW12⟩ : ∃ W, W = W11.alloc (.cells #[.slice (some ⟨g1, o1, none⟩) ni z1, .slice (some ⟨gv, ov, none⟩) np z2] 22) := ⟨_, rfl⟩
                  have hb12 : Below W11.heap.size W11 W12 := by rw [hW12]; exact (Below.refl _ _).alloc (Nat.le_refl _) _
                  have hrow : RowL (fun _ => True) W12 1 (.slice (some ⟨W11.heap.size, 0, none⟩) 2 2) 2 [.slice (some ⟨g1, o1, none⟩) ni z1, .slice (some ⟨gv, ov, none⟩) np z2] := ⟨_, _, rfl, by omega, by omega, rfl, fun h => (by cases h), fun _ => ⟨W11.heap.size, 0, [.slice (some ⟨g1, o1, none⟩) ni z1, .slice (some ⟨gv, ov, none⟩) np z2], _, rfl, trivial, by rw [hW12]; exact (Holds.new W11 22 #[.slice (some ⟨g1, o1, none⟩) ni z1, .slice (some ⟨gv, ov, none⟩) np z2]).r, fun j hj => by simp⟩⟩
                  have hk12 : KpT n₀ lo w3 W12 := (HK35.out.trans HKR.out).trans (KpT.fresh (HB11.out.trans (hb12.mono HB11.out.size)) HNR.out)
                  have q1 := (KpT.rowI HR1.out hk12).row
                  have q2 := (KpT.rowI HR2.out hk12).row
                  rw [HK1.out, HNI.out] at q1
                  rw [HK2.out, HNP.out] at q2
                  have HCO := Lib.hid (concatFn hrow q1 q2 (nat_one _) (nat_one _) (by omega) (by omega))
                  have HB12 : Hid (Below wr.heap.size wr W12) := HB11.out.trans (hb12.mono HB11.out.size)
                  have H1312 := Lib.hid (H1311.out.belowAll hb12)
                  have H1112 := Lib.hid (H1111.out.belowAll hb12)
                  have HR12 := Lib.hid (HR11.out.below hb12)
                  have HW12 := Lib.hid (HW11.out.below hb12)
                  clear hb12 hrow hk12 q1 q2 H1311 H1111 HR11 HW11 HB11
                  gi_wp2
                  rw [← hW12]
                  refine ⟨trivial, no_depth, ?_⟩
                  refine (callsIn_wide.2 HCO.out).mono ?_
                  rintro e W13 ⟨hb13, v, rfl, hown⟩
                  obtain ⟨g, cap, cs, rfl, hcap, hge, hbox, hcl, hct⟩ := owns_box hown (by omega)
                  have HO13 : Hid (W13.ownsRow W12.heap.size 3 1 (.slice (some ⟨g, 0, none⟩) (ni + np) cap) (ni + np) ((vs ++ ns).map natV)) := by rw [List.map_append]; exact hown
                  have HGG : Hid (W12.heap.size ≤ g) := hge
                  have HBC13 := Lib.hid hb13
                  have HBX := Lib.hid hbox
                  have HCL : Hid (ni + np ≤ cs.length) := by show _ ≤ _; omega
                  obtain ⟨q, hq⟩ : ∃ z, ni + p = z := ⟨_, rfl⟩
                  have HQ := Lib.hid hq
                  have hwq : IntKind.i64.wrap ((ni : Int) + (p : Int)) = (q : Int) := by rw [IntKind.wrap_i64]; omega
                  have hwq2 : IntKind.i64.wrap (q : Int) = (q : Int) := by rw [IntKind.wrap_i64]; omega
                  have hq1 : (q : Int) < ((ni + np : Nat) : Int) := by omega
                  have hq1' : (q : Int) < (ni : Int) + (np : Int) := by omega
                  have hq0 : (0 : Int) ≤ (q : Int) := by omega
                  have hqlt : q < ni + np := by omega
                  have HQL := Lib.hid hqlt
                  have h1113 := H1112.out.belowAll hb13
                  have y00 := h1113.cell 0
                  simp only [List.getElem?_cons_zero, List.getElem?_cons_succ] at y00
                  clear HCO hW12 hown hge hbox hcl hct hb13 h1113 y7
                  gi_wp2_with (refine wpListIn_store1 rfl 3 _ _ rfl g q (.int .i64 (d : Int)) rfl rfl HBX.out (by have := HCL.out; omega) sz_Int' rfl rfl ?_)
                  refine Named.mk (fun W15 hW15 => ?_)
                  have hf15 : Fr (fun z => z = g) W13 W15 := by rw [hW15]; exact Fr.setRX _ _ q _
                  have HO15 : Hid (W15.ownsRow W12.heap.size 3 1 (.slice (some ⟨g, 0, none⟩) (ni + np) cap) (ni + np) (((vs ++ ns).set q d).map natV)) := owns_set HO13.out HQL.out hW15
                  have HBC15 : Hid (Below W12.heap.size W12 W15) := HBC13.out.trans (hf15.to_below HBC13.out.size fun z hz e => by have := HGG.out; have e : z = g := e; omega)
                  have HBND : Hid (∀ z ∈ (vs ++ ns).set q d, z < 9223372036854775808) := fun z hz => by
                    rcases List.mem_or_eq_of_mem_set hz with hz | rfl
                    · rcases List.mem_append.1 hz with hz | hz
                      · have := HK3.out _ hz; omega
                      · have := HK5.out _ hz; omega
                    · have h1 := hOKA.out.dst.2
                      simp only at h1
                      have h2 := HPL60.out
                      omega
                  have h1115' := H1112.out.belowAll HBC15.out
                  have y4 := h1115'.cell 4
                  simp only [List.getElem?_cons_zero, List.getElem?_cons_succ] at y4
                  clear hW15 hf15 y00 HBX HO13 HBC13 HCL h1115'
                  cases pu with
                  | true =>
                    obtain ⟨so', hso⟩ : ∃ z : Nat, so = (z : Int) := ⟨so.toNat, by have := (hOKA.out.put rfl).1.1; simp only at this; omega⟩
                    obtain ⟨st', hst⟩ : ∃ z : Nat, st = (z : Int) := ⟨st.toNat, by have := (hOKA.out.put rfl).2.1; simp only at this; omega⟩
                    subst hso
                    subst hst
                    have hso2 : so' < ni := by have := (hOKA.out.put rfl).1.2; simp only at this; have := HNI.out; omega
                    have hso3 : (so' : Int) < ((ni + np : Nat) : Int) := by omega
                    have hso3' : (so' : Int) < (ni : Int) + (np : Int) := by omega
                    have hso0 : (0 : Int) ≤ (so' : Int) := by omega
                    have hst2 : st' ≤ 255 := by have := (hOKA.out.put rfl).2.2; simp only at this; omega
                    have HST2 := Lib.hid hst2
                    have hws : IntKind.i64.wrap (so' : Int) = (so' : Int) := by rw [IntKind.wrap_i64]; omega
                    have h1115 := H1112.out.belowAll HBC15.out
                    have x5 := h1115.cell 5
                    have x6 := h1115.cell 6
                    simp only [List.getElem?_cons_zero, List.getElem?_cons_succ] at x5 x6
                    obtain ⟨cs15, hh15, hl15⟩ := owns_int HO15.out
                    have HH15 := Lib.hid hh15
                    clear hh15 h1115
                    gi_wp2_with (refine wpListIn_store1 rfl 3 _ _ rfl g so' (.int .i64 (st' : Int)) rfl rfl HH15.out (by omega) sz_Int' rfl rfl ?_)
                    refine Named.mk (fun W16 hW16 => ?_)
                    have hf16 : Fr (fun z => z = g) W15 W16 := by rw [hW16]; exact Fr.setRX _ _ so' _
                    have HO16 : Hid (W16.ownsRow W12.heap.size 3 1 (.slice (some ⟨g, 0, none⟩) (ni + np) cap) (ni + np) ((((vs ++ ns).set q d).set so' st').map natV)) := owns_set HO15.out (by omega) hW16
                    have HBC16 : Hid (Below W12.heap.size W12 W16) := HBC15.out.trans (hf16.to_below HBC15.out.size fun z hz e => by have := HGG.out; have e : z = g := e; omega)
                    clear hW16 hf16 x5 x6 HH15
                    have HLEN : Hid ((((vs ++ ns).set q d).set so' st').length = ni + np) := by show _ = _; simp [HK1.out, HK2.out, HNI.out, HNP.out]
                    have HBY := bytesFn (P := From W12.heap.size) (w := W16) (l := (((vs ++ ns).set q d).set so' st')) (v := .slice (some ⟨g, 0, none⟩) (ni + np) cap) (by rw [HLEN.out]; exact RowL.of_owns HO16.out fun _ h => h) (fun z hz => by
                      rcases List.mem_or_eq_of_mem_set hz with hz | rfl
                      · exact HBND.out _ hz
                      · have := HST2.out; omega) (by rw [HLEN.out]; omega)
                    have HBY := Lib.hid HBY
                    gi_wp2
                    refine ⟨trivial, no_depth, ?_⟩
                    refine (callsIn_wide.2 HBY.out).mono ?_
                    rintro e W17 ⟨rfl, hb17⟩
                    have HBC17 : Hid (Below W12.heap.size W12 W17) := HBC16.out.trans (hb17.mono HBC16.out.size)
                    have H1317 := Lib.hid (H1312.out.belowAll HBC17.out)
                    have HR17 := Lib.hid (HR12.out.below HBC17.out)
                    have HW17 := Lib.hid (HW12.out.below HBC17.out)
                    clear HBY hb17
                    obtain ⟨S, hS⟩ : ∃ S : ByteArray, (⟨(encs (((vs ++ ns).set q d).set so' st')).toArray⟩ : ByteArray) = S := ⟨_, rfl⟩
                    rw [hS]
                    gi_wp2_with (refine wpListIn_store1 rfl 9 _ _ rfl b13 4 (.string S) rfl rfl H1317.out (Nat.le_of_ble_eq_true rfl) sz_Str rfl rfl ?_)
                    refine Named.mk (fun W18 hW18 => ?_)
                    have hf18 : Fr (fun z => z = b13) W17 W18 := by rw [hW18]; exact Fr.setRX _ _ 4 _
                    have H1318 : Hid (Holds W18 b13 44 ([.int .i64 (p : Int), .int .i64 (k : Int), .int .i64 (-1), .int .i64 (-1), .string S, .int .i64 bad, .slice a3 n3 c3, .slice a4 n4 c4, .int .u64 (tu : Int)])) := H1317.out.stored hW18 (Nat.le_of_ble_eq_true rfl)
                    have HB18 : Hid (Below wr.heap.size wr W18) := (HB12.out.trans (HBC17.out.mono HB12.out.size)).trans (hf18.to_below (Nat.le_trans HB12.out.size HBC17.out.size) fun z hz e => by have := HG13.out; have e : z = b13 := e; omega)
                    have HR18 := Lib.hid (RowX.of_fr HR17.out hf18 H1317.out (by decide))
                    have HW18 := Lib.hid (RowX.of_fr HW17.out hf18 H1317.out (by decide))
                    have HSS : Hid ((if bad = 0 then bytesOf (tdst vs.length vs ns p ⟨(d : Int), true, ob, va, true, (so' : Int), (st' : Int), bad⟩) else ⟨#[]⟩) = S) := by
                      show _ = _
                      rw [if_pos HBAD.out, ← hS]
                      unfold bytesOf tdst
                      simp [HK1.out, HNI.out, HQ.out]
                    clear hW18 hf18 H1317 hS
                    have HTE : Hid (Tells L pre (.agg ([.int .i64 (p : Int), .int .i64 (k : Int), .int .i64 (-1), .int .i64 (-1), .string S, .int .i64 bad, .slice a3 n3 c3, .slice a4 n4 c4, .int .u64 (tu : Int)] : List Value).toArray) wr W18) := by
                      refine ⟨hpl2, .slice a3 n3 c3, .slice a4 n4 c4, ?_, ?_, ?_⟩
                      · rw [HLA.out]
                        unfold tmove
                        rw [HTU.out, HSS.out]
                        rfl
                      · rw [HLA.out]
                        exact HR18.out.wide HSZ.out
                      · rw [HLA.out]
                        exact HW18.out.wide HSZ.out
                    obtain ⟨fn, tmps, assign, body, hy, hR⟩ := HYY.out pre (.agg ([.int .i64 (p : Int), .int .i64 (k : Int), .int .i64 (-1), .int .i64 (-1), .string S, .int .i64 bad, .slice a3 n3 c3, .slice a4 n4 c4, .int .u64 (tu : Int)] : List Value).toArray) wr W18 HJR.out HB18.out (abide_below HJJ.out HB18.out HJR.out) HTE.out hpl2
                    have HRGM := Lib.hid (H1318.out.range (i := 0) (n := 9) (xs := [.int .i64 (p : Int), .int .i64 (k : Int), .int .i64 (-1), .int .i64 (-1), .string S, .int .i64 bad, .slice a3 n3 c3, .slice a4 n4 c4, .int .u64 (tu : Int)]) rfl)
                    have HRY := Lib.hid hR
                    clear hR
                    gi_wp2_with (refine wpListIn_load_mid rfl 44 _ rfl b13 0 rfl ([.int .i64 (p : Int), .int .i64 (k : Int), .int .i64 (-1), .int .i64 (-1), .string S, .int .i64 bad, .slice a3 n3 c3, .slice a4 n4 c4, .int .u64 (tu : Int)]) _ HRGM.out Try.underlying44 rfl sz_Move ?_)
                    refine ⟨no_depth, ?_⟩
                    refine HRY.out.mono ?_
                    rintro e wy (⟨rfl, hjy, hky⟩ | ⟨rfl, hjx⟩)
                    · have HJY : Hid (J (pre ++ [.agg ([.int .i64 (p : Int), .int .i64 (k : Int), .int .i64 (-1), .int .i64 (-1), .string S, .int .i64 bad, .slice a3 n3 c3, .slice a4 n4 c4, .int .u64 (tu : Int)] : List Value).toArray]) wy) := hjy
                      have HKY : Hid (KpT n₀ lo w5 wy) := HKR.out.trans ((KpT.fresh HB18.out HNR.out).trans hky)
                      clear hjy hky hy
                      gi_wp2
                      go_roundw
                      case rel => exact ⟨k + 1, _, by simp, by omega, by rw [List.length_append]; exact hpl2, by rw [List.length_append]; exact HDN.out, HJY, HKY⟩
                      case measure => simp [intOf]; omega
                    · have HJX : Hid (Jx (pre ++ [.agg ([.int .i64 (p : Int), .int .i64 (k : Int), .int .i64 (-1), .int .i64 (-1), .string S, .int .i64 bad, .slice a3 n3 c3, .slice a4 n4 c4, .int .u64 (tu : Int)] : List Value).toArray]) wy) := hjx
                      clear hjx hy
                      gi_wp2
                      refine bodyPost_ret (results_none rfl _ _ _) rfl ?_
                      exact ⟨⟨_, rfl⟩, .inr ⟨_, trivial, HJX.out⟩⟩
                  | false =>
                    have HLEN : Hid (((vs ++ ns).set q d).length = ni + np) := by show _ = _; simp [HK1.out, HK2.out, HNI.out, HNP.out]
                    have HBY := bytesFn (P := From W12.heap.size) (w := W15) (l := ((vs ++ ns).set q d)) (v := .slice (some ⟨g, 0, none⟩) (ni + np) cap) (by rw [HLEN.out]; exact RowL.of_owns HO15.out fun _ h => h) (fun z hz => by
                      exact HBND.out _ hz) (by rw [HLEN.out]; omega)
                    have HBY := Lib.hid HBY
                    gi_wp2
                    refine ⟨trivial, no_depth, ?_⟩
                    refine (callsIn_wide.2 HBY.out).mono ?_
                    rintro e W17 ⟨rfl, hb17⟩
                    have HBC17 : Hid (Below W12.heap.size W12 W17) := HBC15.out.trans (hb17.mono HBC15.out.size)
                    have H1317 := Lib.hid (H1312.out.belowAll HBC17.out)
                    have HR17 := Lib.hid (HR12.out.below HBC17.out)
                    have HW17 := Lib.hid (HW12.out.below HBC17.out)
                    clear HBY hb17
                    obtain ⟨S, hS⟩ : ∃ S : ByteArray, (⟨(encs ((vs ++ ns).set q d)).toArray⟩ : ByteArray) = S := ⟨_, rfl⟩
                    rw [hS]
                    gi_wp2_with (refine wpListIn_store1 rfl 9 _ _ rfl b13 4 (.string S) rfl rfl H1317.out (Nat.le_of_ble_eq_true rfl) sz_Str rfl rfl ?_)
                    refine Named.mk (fun W18 hW18 => ?_)
                    have hf18 : Fr (fun z => z = b13) W17 W18 := by rw [hW18]; exact Fr.setRX _ _ 4 _
                    have H1318 : Hid (Holds W18 b13 44 ([.int .i64 (p : Int), .int .i64 (k : Int), .int .i64 (-1), .int .i64 (-1), .string S, .int .i64 bad, .slice a3 n3 c3, .slice a4 n4 c4, .int .u64 (tu : Int)])) := H1317.out.stored hW18 (Nat.le_of_ble_eq_true rfl)
                    have HB18 : Hid (Below wr.heap.size wr W18) := (HB12.out.trans (HBC17.out.mono HB12.out.size)).trans (hf18.to_below (Nat.le_trans HB12.out.size HBC17.out.size) fun z hz e => by have := HG13.out; have e : z = b13 := e; omega)
                    have HR18 := Lib.hid (RowX.of_fr HR17.out hf18 H1317.out (by decide))
                    have HW18 := Lib.hid (RowX.of_fr HW17.out hf18 H1317.out (by decide))
                    have HSS : Hid ((if bad = 0 then bytesOf (tdst vs.length vs ns p ⟨(d : Int), true, ob, va, false, so, st, bad⟩) else ⟨#[]⟩) = S) := by
                      show _ = _
                      rw [if_pos HBAD.out, ← hS]
                      unfold bytesOf tdst
                      simp [HK1.out, HNI.out, HQ.out]
                    clear hW18 hf18 H1317 hS
                    have HTE : Hid (Tells L pre (.agg ([.int .i64 (p : Int), .int .i64 (k : Int), .int .i64 (-1), .int .i64 (-1), .string S, .int .i64 bad, .slice a3 n3 c3, .slice a4 n4 c4, .int .u64 (tu : Int)] : List Value).toArray) wr W18) := by
                      refine ⟨hpl2, .slice a3 n3 c3, .slice a4 n4 c4, ?_, ?_, ?_⟩
                      · rw [HLA.out]
                        unfold tmove
                        rw [HTU.out, HSS.out]
                        rfl
                      · rw [HLA.out]
                        exact HR18.out.wide HSZ.out
                      · rw [HLA.out]
                        exact HW18.out.wide HSZ.out
                    obtain ⟨fn, tmps, assign, body, hy, hR⟩ := HYY.out pre (.agg ([.int .i64 (p : Int), .int .i64 (k : Int), .int .i64 (-1), .int .i64 (-1), .string S, .int .i64 bad, .slice a3 n3 c3, .slice a4 n4 c4, .int .u64 (tu : Int)] : List Value).toArray) wr W18 HJR.out HB18.out (abide_below HJJ.out HB18.out HJR.out) HTE.out hpl2
                    have HRGM := Lib.hid (H1318.out.range (i := 0) (n := 9) (xs := [.int .i64 (p : Int), .int .i64 (k : Int), .int .i64 (-1), .int .i64 (-1), .string S, .int .i64 bad, .slice a3 n3 c3, .slice a4 n4 c4, .int .u64 (tu : Int)]) rfl)
                    have HRY := Lib.hid hR
                    clear hR
                    gi_wp2_with (refine wpListIn_load_mid rfl 44 _ rfl b13 0 rfl ([.int .i64 (p : Int), .int .i64 (k : Int), .int .i64 (-1), .int .i64 (-1), .string S, .int .i64 bad, .slice a3 n3 c3, .slice a4 n4 c4, .int .u64 (tu : Int)]) _ HRGM.out Try.underlying44 rfl sz_Move ?_)
                    refine ⟨no_depth, ?_⟩
                    refine HRY.out.mono ?_
                    rintro e wy (⟨rfl, hjy, hky⟩ | ⟨rfl, hjx⟩)
                    · have HJY : Hid (J (pre ++ [.agg ([.int .i64 (p : Int), .int .i64 (k : Int), .int .i64 (-1), .int .i64 (-1), .string S, .int .i64 bad, .slice a3 n3 c3, .slice a4 n4 c4, .int .u64 (tu : Int)] : List Value).toArray]) wy) := hjy
                      have HKY : Hid (KpT n₀ lo w5 wy) := HKR.out.trans ((KpT.fresh HB18.out HNR.out).trans hky)
                      clear hjy hky hy
                      gi_wp2
                      go_roundw
                      case rel => exact ⟨k + 1, _, by simp, by omega, by rw [List.length_append]; exact hpl2, by rw [List.length_append]; exact HDN.out, HJY, HKY⟩
                      case measure => simp [intOf]; omega
                    · have HJX : Hid (Jx (pre ++ [.agg ([.int .i64 (p : Int), .int .i64 (k : Int), .int .i64 (-1), .int .i64 (-1), .string S, .int .i64 bad, .slice a3 n3 c3, .slice a4 n4 c4, .int .u64 (tu : Int)] : List Value).toArray]) wy) := hjx
                      clear hjx hy
                      gi_wp2
                      refine bodyPost_ret (results_none rfl _ _ _) rfl ?_
                      exact ⟨⟨_, rfl⟩, .inr ⟨_, trivial, HJX.out⟩⟩
                · have d0 : (bad == 0) = false := by simpa using hbad
                  have HBAD : Hid (¬ bad = 0) := hbad
                  have HSS : Hid ((if bad = 0 then bytesOf (tdst vs.length vs ns p ⟨(d : Int), true, ob, va, pu, so, st, bad⟩) else ⟨#[]⟩) = ⟨#[]⟩) := by show _ = _; rw [if_neg HBAD.out]
                  clear hbad
                  have HTE : Hid (Tells L pre (.agg ([.int .i64 (p : Int), .int .i64 (k : Int), .int .i64 (-1), .int .i64 (-1), .string ⟨#[]⟩, .int .i64 bad, .slice a3 n3 c3, .slice a4 n4 c4, .int .u64 (tu : Int)] : List Value).toArray) wr W11) := by
                    refine ⟨hpl2, .slice a3 n3 c3, .slice a4 n4 c4, ?_, ?_, ?_⟩
                    · rw [HLA.out]
                      unfold tmove
                      rw [HTU.out, HSS.out]
                      rfl
                    · rw [HLA.out]
                      exact HR11.out.wide HSZ.out
                    · rw [HLA.out]
                      exact HW11.out.wide HSZ.out
                  obtain ⟨fn, tmps, assign, body, hy, hR⟩ := HYY.out pre (.agg ([.int .i64 (p : Int), .int .i64 (k : Int), .int .i64 (-1), .int .i64 (-1), .string ⟨#[]⟩, .int .i64 bad, .slice a3 n3 c3, .slice a4 n4 c4, .int .u64 (tu : Int)] : List Value).toArray) wr W11 HJR.out HB11.out (abide_below HJJ.out HB11.out HJR.out) HTE.out hpl2
                  have HRGM := Lib.hid (H1311.out.range (i := 0) (n := 9) (xs := [.int .i64 (p : Int), .int .i64 (k : Int), .int .i64 (-1), .int .i64 (-1), .string ⟨#[]⟩, .int .i64 bad, .slice a3 n3 c3, .slice a4 n4 c4, .int .u64 (tu : Int)]) rfl)
                  have HRY := Lib.hid hR
                  clear hR
                  gi_wp2_with (refine wpListIn_load_mid rfl 44 _ rfl b13 0 rfl ([.int .i64 (p : Int), .int .i64 (k : Int), .int .i64 (-1), .int .i64 (-1), .string ⟨#[]⟩, .int .i64 bad, .slice a3 n3 c3, .slice a4 n4 c4, .int .u64 (tu : Int)]) _ HRGM.out Try.underlying44 rfl sz_Move ?_)
                  refine ⟨no_depth, ?_⟩
                  refine HRY.out.mono ?_
                  rintro e wy (⟨rfl, hjy, hky⟩ | ⟨rfl, hjx⟩)
                  · have HJY : Hid (J (pre ++ [.agg ([.int .i64 (p : Int), .int .i64 (k : Int), .int .i64 (-1), .int .i64 (-1), .string ⟨#[]⟩, .int .i64 bad, .slice a3 n3 c3, .slice a4 n4 c4, .int .u64 (tu : Int)] : List Value).toArray]) wy) := hjy
                    have HKY : Hid (KpT n₀ lo w5 wy) := HKR.out.trans ((KpT.fresh HB11.out HNR.out).trans hky)
                    clear hjy hky hy
                    gi_wp2
                    go_roundw
                    case rel => exact ⟨k + 1, _, by simp, by omega, by rw [List.length_append]; exact hpl2, by rw [List.length_append]; exact HDN.out, HJY, HKY⟩
                    case measure => simp [intOf]; omega
                  · have HJX : Hid (Jx (pre ++ [.agg ([.int .i64 (p : Int), .int .i64 (k : Int), .int .i64 (-1), .int .i64 (-1), .string ⟨#[]⟩, .int .i64 bad, .slice a3 n3 c3, .slice a4 n4 c4, .int .u64 (tu : Int)] : List Value).toArray]) wy) := hjx
                    clear hjx hy
                    gi_wp2
                    refine bodyPost_ret (results_none rfl _ _ _) rfl ?_
                    exact ⟨⟨_, rfl⟩, .inr ⟨_, trivial, HJX.out⟩⟩
              · have d1 : ((q : Int) == va) = false := by rw [beq_eq_false_iff_ne]; exact hqv
                have d2 : ((q : Int) != va) = true := by rw [bne, d1]; rfl
                have HTG : Hid (tgoes vs ⟨(d : Int), true, (o : Int), va, pu, so, st, bad⟩ = false) := by show _ = _; rw [htg]; exact decide_eq_false hqv
                have HDN : Hid (L.drop pre.length = tarcs t vs ns p lp x (k + 1) (x.arcs.drop (k + 1)) ++ tprocs t vs ns (p + 1) (t.procs.drop (p + 1))) := by
                  show _ = _
                  rw [HD.out, HAT.out, HTG.out]
                  rfl
                clear htg hqv
                go_quiet (fail)
                have hb8 : Below wr.heap.size wr (w7.drewN nq) := ((Fr.of_below HB7.out (fun _ => False)).drewN nq).to_below (Nat.le_refl _) fun _ _ h => h
                have HJZ := Lib.hid (abide_below HJJ.out hb8 HJR.out)
                have HKZ : Hid (KpT n₀ lo w5 (w7.drewN nq)) := HKR.out.trans (KpT.fresh hb8 HNR.out)
                clear hb8 hcv
                gi_wp2
                go_roundw
                case rel => exact ⟨k + 1, pre, by simp, by omega, hpl, HDN, HJZ, HKZ⟩
                case measure => simp [intOf]; omega
          · obtain rfl : k = K := by omega
            have HDZ : Hid (L.drop pre.length = tprocs t vs ns (p + 1) (t.procs.drop (p + 1))) := by
              have h := HD.out
              rw [List.drop_of_length_le (l := x.arcs) (by rw [HKK.out]; exact Nat.le_refl _), tarcs, List.nil_append] at h
              exact h
            have HKZ : Hid (KpT n₀ lo w3 wr) := HK35.out.trans HKR.out
            gi_wp2
            go_roundw
            case rel => exact ⟨p + 1, pre, by simp, by omega, hpl, HDZ, HJR, HKZ⟩
            case measure => simp [intOf]; omega
      · obtain rfl : p = np := by omega
        have hz : pre.length = L.length := by
          have h := HD.out
          rw [List.drop_of_length_le (l := t.procs) (by rw [HNP.out]; exact Nat.le_refl _), tprocs] at h
          have := List.length_drop (i := pre.length) (l := L)
          rw [h] at this
          simp at this
          omega
        gi_wp2
        go_end0
        exact ⟨⟨_, rfl⟩, .inl ⟨pre, hz, HJR.out⟩⟩
end Go.Proofs.Ytcopoaaofjeklaa.G
