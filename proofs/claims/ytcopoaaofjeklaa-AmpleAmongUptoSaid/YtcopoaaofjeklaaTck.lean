/- The walk of net.CheckThreads: what it lets pass may be. -/
import Derived.Test.YtcopoaaofjeklaaTsy
import Derived.Test.YtcopoaaofjeklaaMa9
namespace Go.Proofs.Ytcopoaaofjeklaa.G
open Go.RowKit
set_option linter.unusedVariables false
set_option linter.unusedSimpArgs false

def okV (n : Int) : Bool := decide (0 ≤ n) && decide (n ≤ 255)
def okO (N : Nat) (n : Int) : Bool := decide (0 ≤ n) && decide (n < (N : Int))
theorem valueFn (n : Int) (w : World) : Calls Try.prog 27 #[.int .i64 n] w fun e w' => e = .returned (.bool (okV n)) ∧ w' = w := by
  by_cases h1 : 0 ≤ n
  · have d1 : decide (0 ≤ n) = true := decide_eq_true h1
    go_enter Try.func27, Try.ntmps27
    go_wp2
    go_ret
    exact ⟨by simp [okV, h1], rfl⟩
  · have d1 : decide (0 ≤ n) = false := decide_eq_false h1
    go_enter Try.func27, Try.ntmps27
    go_wp2
    go_ret
    exact ⟨by unfold okV; rw [d1]; rfl, rfl⟩
theorem objectFn (n : Int) {w : World} {b N : Nat} {a : Option Addr} {c : Nat} {v1 v2 : Value} (h : Holds w b 31 [.slice a N c, v1, v2]) : Calls Try.prog 28 #[.int .i64 n, .pointer (some ⟨b, 0, none⟩)] w fun e w' => e = .returned (.bool (okO N n)) ∧ w' = w := by
  have e0 := h.cell 0
  simp only [List.getElem?_cons_zero] at e0
  by_cases h1 : 0 ≤ n
  · have d1 : decide (0 ≤ n) = true := decide_eq_true h1
    go_enter Try.func28, Try.ntmps28
    go_wp2
    go_ret
    exact ⟨by simp [okO, h1], rfl⟩
  · have d1 : decide (0 ≤ n) = false := decide_eq_false h1
    go_enter Try.func28, Try.ntmps28
    go_wp2
    go_ret
    exact ⟨by unfold okO; rw [d1]; rfl, rfl⟩
def ProcOk (n : Nat) (p : List TNode) : Prop := 1 ≤ p.length ∧ p.length ≤ 60 ∧ ((p.map fun x => x.arcs.length).sum ≤ 1000) ∧ ∀ x ∈ p, ∀ a ∈ x.arcs, OkA n p.length a
structure GoodA (n m : Nat) (a : TArc) : Prop where
  dst : 0 ≤ a.dst ∧ a.dst < m
  bad : (decide (a.bad < 0) || decide (5 < a.bad)) = false
  test : a.test = true → okO n a.obj = true ∧ okV a.val = true
  put : a.put = true → okO n a.sobj = true ∧ okV a.sto = true
def GoodP (n : Nat) (p : List TNode) : Prop := 1 ≤ p.length ∧ p.length ≤ 60 ∧ ((p.map fun x => x.arcs.length).sum ≤ 1000) ∧ ∀ x ∈ p, ∀ a ∈ x.arcs, GoodA n p.length a
/-- What passes. -/
structure GoodT (t : PThr) : Prop where
  len : t.init.length ≤ 16 ∧ t.procs.length ≤ 8 ∧ t.props.length ≤ 60
  init : ∀ n ∈ t.init, okV n = true
  props : ∀ p ∈ t.props, okO t.init.length p.obj = true ∧ okV p.val = true
  procs : ∀ p ∈ t.procs, GoodP t.init.length p
def CtPost (t : PThr) (w : World) (e : Ending) (w' : World) : Prop := Below w.heap.size w w' ∧ ∃ c : Int, e = .returned (.int .i64 c) ∧ (c = 0 → OkT t) ∧ (c = 0 ∨ c = 150 ∧ ¬ GoodT t)
theorem CtPost.no {t : PThr} {w w' : World} (h : Below w.heap.size w w') (hn : ¬ GoodT t) : CtPost t w (.returned (.int .i64 150)) w' := ⟨h, 150, rfl, fun h => by omega, .inr ⟨rfl, hn⟩⟩
theorem sum_take_le : ∀ (l : List TNode) (k : Nat), ((l.take k).map fun x => x.arcs.length).sum ≤ (l.map fun x => x.arcs.length).sum
  | [], k => by simp
  | a :: l, 0 => by simp
  | a :: l, k + 1 => by have := sum_take_le l k; simp only [List.take_succ_cons, List.map_cons, List.sum_cons]; omega
set_option maxHeartbeats 4000000 in
set_option maxRecDepth 100000 in
theorem checkTFn {P : Nat → Prop} {w : World} {t : PThr} {vi vp vq : Value} (h : ThrV P w vi vp vq t) (hs : SmallT t) : Calls Try.prog 16 #[.agg #[vi, vp, vq]] w (CtPost t w) := by
  obtain ⟨fp, p1, p2⟩ := h.procs
  obtain ⟨fq, q1, q2⟩ := h.props
  have i1 := h.init
  obtain ⟨ai, ci, rfl, _, _, _⟩ := i1.form
  obtain ⟨ap, cp, rfl, _, _, _⟩ := p1.form
  obtain ⟨aq, cq, rfl, _, _, _⟩ := q1.form
  obtain ⟨N, hN⟩ : ∃ n, t.init.length = n := ⟨_, rfl⟩
  obtain ⟨M, hM⟩ : ∃ n, t.procs.length = n := ⟨_, rfl⟩
  obtain ⟨Q, hQ⟩ : ∃ n, t.props.length = n := ⟨_, rfl⟩
  obtain ⟨w1, hw1⟩ : ∃ W, W = w.alloc (.cells #[.slice ai N ci, .slice ap M cp, .slice aq Q cq] 31) := ⟨_, rfl⟩
  have hb1 : Below w.heap.size w w1 := by rw [hw1]; exact (Below.refl _ _).alloc (Nat.le_refl _) _
  have h1 : Holds w1 w.heap.size 31 [.slice ai N ci, .slice ap M cp, .slice aq Q cq] := by rw [hw1]; exact Holds.new w 31 #[.slice ai N ci, .slice ap M cp, .slice aq Q cq]
  have HI := Lib.hid (i1.up (Keep.below hb1))
  have HP1 := Lib.hid (p1.up (Keep.below hb1))
  have HP2 := Lib.hid (LsF.up (fun _ _ => oneTProc.up (Keep.below hb1)) _ p2)
  have HQ1 := Lib.hid (q1.up (Keep.below hb1))
  have HQ2 := Lib.hid (LsF.up (fun _ _ => oneTProp.up (Keep.below hb1)) _ q2)
  have HNN := Lib.hid hN
  have HMM := Lib.hid hM
  have HQQ := Lib.hid hQ
  have HS := Lib.hid hs
  have H1 := Lib.hid h1
  have HB1 := Lib.hid hb1
  have e0 := h1.cell 0
  have e1 := h1.cell 1
  have e2 := h1.cell 2
  simp only [List.getElem?_cons_zero, List.getElem?_cons_succ] at e0 e1 e2
  have s0 := hs.init
  have s1 := hs.procs
  have s2 := hs.props
  rw [hN] at s0 ⊢
  rw [hM] at s1 ⊢
  rw [hQ] at s2 ⊢
  clear h i1 p1 p2 q1 q2 hN hM hQ hs hb1 h1
  go_enter Try.func16, Try.ntmps16
  go_upto_region 3 with (fail)
  rw [← hw1]
  clear hw1
  obtain ⟨b1, hb1⟩ : ∃ b, w.heap.size = b := ⟨_, rfl⟩
  have HBW := Lib.hid hb1
  rw [hb1] at H1 e0 e1 e2 ⊢
  clear hb1
  by_cases hn : 16 < N
  · have d1 : decide ((16 : Int) < (N : Int)) = true := decide_eq_true (by omega)
    go_wp2
    go_ret
    refine CtPost.no HB1.out (fun h => by have h1 := h.len; have h2 := HNN.out; omega)
  · have d1 : decide ((16 : Int) < (N : Int)) = false := decide_eq_false (by omega)
    by_cases hm : 8 < M
    · have d2 : decide ((8 : Int) < (M : Int)) = true := decide_eq_true (by omega)
      go_wp2
      go_ret
      refine CtPost.no HB1.out (fun h => by have h1 := h.len; have h2 := HMM.out; omega)
    · have d2 : decide ((8 : Int) < (M : Int)) = false := decide_eq_false (by omega)
      by_cases hq : 60 < Q
      · have d3 : decide ((60 : Int) < (Q : Int)) = true := decide_eq_true (by omega)
        go_wp2
        go_ret
        refine CtPost.no HB1.out (fun h => by have h1 := h.len; have h2 := HQQ.out; omega)
      · have d3 : decide ((60 : Int) < (Q : Int)) = false := decide_eq_false (by omega)
        go_wp2
        go_loopw [36] (fun x W => ∃ i : Nat, x = .int .i64 (i : Int) ∧ i ≤ N ∧ Hid (∀ z ∈ t.init.take i, 0 ≤ z ∧ z ≤ 255) ∧ W = w1) (fun x _ => N - (intOf x).toNat)
        case atStart => exact ⟨0, rfl, Nat.zero_le _, by show ∀ z ∈ _, _; simp, rfl⟩
        case round =>
          obtain ⟨i, hx, hi, HG, rfl⟩ := hrel
          subst hx
          by_cases hin : i < N
          · have hi2i : (i : Int) < (N : Int) := by omega
            have hi0i : (0 : Int) ≤ (i : Int) := by omega
            have hwii : IntKind.i64.wrap (i : Int) = (i : Int) := by rw [IntKind.wrap_i64]; omega
            have hwji : IntKind.i64.wrap ((i : Int) + 1) = (i : Int) + 1 := by rw [IntKind.wrap_i64]; omega
            have hil : i < t.init.length := by rw [HNN.out]; exact hin
            obtain ⟨gb, ob, cb, x, he, hxv, hcv⟩ := HI.out.at1 hil
            injection he with he _ hec
            subst he hec
            rw [List.getElem?_map, List.getElem?_eq_getElem hil] at hxv
            injection hxv with hxv
            subst hxv
            obtain ⟨z, hz⟩ : ∃ z, t.init[i] = z := ⟨_, rfl⟩
            replace hcv : wr.cell? ⟨gb, ob + i, none⟩ = some (.int .i64 z) := by rw [← hz]; exact hcv
            go_wp2_with (fail)
            refine (valueFn z wr).mono ?_
            rintro e w2 ⟨rfl, rfl⟩
            cases hok : okV z with
            | false =>
              go_wp2
              go_ret
              refine CtPost.no HB1.out (fun h => by have h1 := h.init _ (List.getElem_mem hil); rw [hz, hok] at h1; cases h1)
            | true =>
              have HGN : Hid (∀ z ∈ t.init.take (i + 1), 0 ≤ z ∧ z ≤ 255) := fun y hy => by
                rw [List.take_add_one, List.getElem?_eq_getElem hil, hz] at hy
                rcases List.mem_append.1 hy with hy | hy
                · exact HG.out y hy
                · simp at hy
                  subst hy
                  unfold okV at hok
                  simp only [Bool.and_eq_true, decide_eq_true_eq] at hok
                  exact hok
              clear hok
              go_wp2
              refine ⟨⟨i + 1, by simp, by omega, HGN, trivial⟩, ?_⟩
              simp [intOf]
              omega
          · obtain rfl : i = N := by omega
            have HGI : Hid (∀ z ∈ t.init, 0 ≤ z ∧ z ≤ 255) := fun z hz => HG.out z (by rw [List.take_of_length_le (by rw [HNN.out]; exact Nat.le_refl _)]; exact hz)
            clear HG hin hi
            go_wp2
            obtain ⟨w1, rfl⟩ : ∃ W, W = wr := ⟨_, rfl⟩
            go_loopw [48] (fun x W => ∃ j : Nat, x = .int .i64 (j : Int) ∧ j ≤ Q ∧ Hid (∀ p ∈ t.props.take j, 0 ≤ p.obj ∧ p.obj < t.init.length) ∧ Hid (Below w1.heap.size w1 W)) (fun x _ => Q - (intOf x).toNat)
            case atStart => exact ⟨0, rfl, Nat.zero_le _, by show ∀ z ∈ _, _; simp, Below.refl _ _⟩
            case round =>
              obtain ⟨j, hx, hj, HG, HB⟩ := hrel
              subst hx
              have HBW1 : Hid (Below w.heap.size w wr) := HB1.out.trans (HB.out.mono HB1.out.size)
              by_cases hjq : j < Q
              · have hi2j : (j : Int) < (Q : Int) := by omega
                have hi0j : (0 : Int) ≤ (j : Int) := by omega
                have hwij : IntKind.i64.wrap (j : Int) = (j : Int) := by rw [IntKind.wrap_i64]; omega
                have hwjj : IntKind.i64.wrap ((j : Int) + 1) = (j : Int) + 1 := by rw [IntKind.wrap_i64]; omega
                have hjl : j < t.props.length := by rw [HQQ.out]; exact hjq
                obtain ⟨gb, ob, cb, c, he, hG, hr⟩ := (HQ1.out.up (Keep.below HB.out)).atN oneTProp (LsF.up (fun _ _ => oneTProp.up (Keep.below HB.out)) _ HQ2.out) hjl
                injection he with he _ hec
                subst he hec
                have hG : c = _ := hG
                subst hG
                obtain ⟨po, hpo⟩ : ∃ z, t.props[j].obj = z := ⟨_, rfl⟩
                obtain ⟨pv, hpv⟩ : ∃ z, t.props[j].val = z := ⟨_, rfl⟩
                have HPO := Lib.hid hpo
                have HPV := Lib.hid hpv
                rw [hpo, hpv] at hr
                have HR := Lib.hid hr
                have hb2 : Below wr.heap.size wr (wr.alloc (.cells #[.int .i64 po, .int .i64 pv] 56)) := (Below.refl _ _).alloc (Nat.le_refl _) _
                have HB2 : Hid (Below w1.heap.size w1 (wr.alloc (.cells #[.int .i64 po, .int .i64 pv] 56))) := HB.out.trans (hb2.mono HB.out.size)
                have HBW2 : Hid (Below w.heap.size w (wr.alloc (.cells #[.int .i64 po, .int .i64 pv] 56))) := HB1.out.trans (HB2.out.mono HB1.out.size)
                have H12 := Lib.hid (H1.out.belowAll HB2.out)
                clear hr hb2 hpo hpv
                go_wp2_with (refine wpList_load_mid rfl 56 _ rfl gb (ob + j * 2) rfl [.int .i64 po, .int .i64 pv] _ HR.out Try.underlying56 rfl sz_TProp ?_)
                refine (objectFn po H12.out).mono ?_
                rintro e w2 ⟨rfl, rfl⟩
                cases hok : okO i po with
                | false =>
                  go_wp2
                  go_ret
                  refine CtPost.no HBW2.out (fun h => by have h1 := (h.props _ (List.getElem_mem hjl)).1; rw [HPO.out, HNN.out, hok] at h1; cases h1)
                | true =>
                  go_wp2_with (fail)
                  refine (valueFn pv _).mono ?_
                  rintro e w3 ⟨rfl, rfl⟩
                  cases hov : okV pv with
                  | false =>
                    go_wp2
                    go_ret
                    refine CtPost.no HBW2.out (fun h => by have h1 := (h.props _ (List.getElem_mem hjl)).2; rw [HPV.out, hov] at h1; cases h1)
                  | true =>
                    have HGN : Hid (∀ p ∈ t.props.take (j + 1), 0 ≤ p.obj ∧ p.obj < t.init.length) := fun y hy => by
                      rw [List.take_add_one, List.getElem?_eq_getElem hjl] at hy
                      rcases List.mem_append.1 hy with hy | hy
                      · exact HG.out y hy
                      · simp at hy
                        subst hy
                        unfold okO at hok
                        simp only [Bool.and_eq_true, decide_eq_true_eq] at hok
                        rw [HPO.out, HNN.out]
                        exact hok
                    clear hok hov
                    go_wp2
                    refine ⟨⟨j + 1, by simp, by omega, HGN, HB2⟩, ?_⟩
                    simp [intOf]
                    omega
              · obtain rfl : j = Q := by omega
                have HGQ : Hid (∀ p ∈ t.props, 0 ≤ p.obj ∧ p.obj < t.init.length) := fun z hz => HG.out z (by rw [List.take_of_length_le (by rw [HQQ.out]; exact Nat.le_refl _)]; exact hz)
                clear HG hjq hj
                obtain ⟨w2, rfl⟩ : ∃ W, W = wr := ⟨_, rfl⟩
                have e12 := (H1.out.belowAll HB.out).cell 1
                simp only [List.getElem?_cons_zero, List.getElem?_cons_succ] at e12
                have HB2 := Lib.hid HB.out
                go_wp2
                go_loopw [68] (fun x W => ∃ p : Nat, x = .int .i64 (p : Int) ∧ p ≤ M ∧ Hid (∀ l ∈ t.procs.take p, ProcOk i l) ∧ Hid (Below w1.heap.size w1 W)) (fun x _ => M - (intOf x).toNat)
                case atStart => exact ⟨0, rfl, Nat.zero_le _, by show ∀ z ∈ _, _; simp, HB2.out⟩
                case round =>
                  clear HB2 HB e12 HBW1
                  obtain ⟨p, hx, hp, HG, HB⟩ := hrel
                  subst hx
                  have HBW1 : Hid (Below w.heap.size w wr) := HB1.out.trans (HB.out.mono HB1.out.size)
                  by_cases hpm : p < M
                  · have hi2p : (p : Int) < (M : Int) := by omega
                    have hi0p : (0 : Int) ≤ (p : Int) := by omega
                    have hwip : IntKind.i64.wrap (p : Int) = (p : Int) := by rw [IntKind.wrap_i64]; omega
                    have hwjp : IntKind.i64.wrap ((p : Int) + 1) = (p : Int) + 1 := by rw [IntKind.wrap_i64]; omega
                    have hpl : p < t.procs.length := by rw [HMM.out]; exact hpm
                    obtain ⟨gb, ob0, cb, c, he, hG, hr⟩ := (HP1.out.up (Keep.below HB.out)).atN oneTProc (LsF.up (fun _ _ => oneTProc.up (Keep.below HB.out)) _ HP2.out) hpl
                    injection he with he _ hec
                    subst he hec
                    obtain ⟨v9, f9, rfl, r9, g9⟩ := hG
                    obtain ⟨lp, hlp⟩ : ∃ l, t.procs[p] = l := ⟨_, rfl⟩
                    have HLM : Hid (lp ∈ t.procs) := by show _ ∈ _; rw [← hlp]; exact List.getElem_mem hpl
                    have HLP := Lib.hid hlp
                    rw [hlp] at r9 g9
                    obtain ⟨al, cl, rfl, hcl, hcl2, _⟩ := r9.form
                    obtain ⟨z, hz⟩ : ∃ z, lp.length = z := ⟨_, rfl⟩
                    have HZZ := Lib.hid hz
                    have HR9 := Lib.hid r9
                    have HG9 := Lib.hid g9
                    have hcp := hr 0 (.slice al z cl) (by rw [← hz]; rfl)
                    rw [Nat.add_zero, Nat.mul_one] at hcp
                    rw [hz] at hcl
                    clear hr r9 g9 hlp hz
                    by_cases hz1 : z < 1
                    · have d1 : decide ((z : Int) < 1) = true := decide_eq_true (by omega)
                      go_wp2
                      go_ret
                      refine CtPost.no HBW1.out (fun h => by have h1 := (h.procs _ HLM.out).1; have h2 := HZZ.out; omega)
                    · have d1 : decide ((z : Int) < 1) = false := decide_eq_false (by omega)
                      by_cases hz60 : 60 < z
                      · have d2 : decide ((60 : Int) < (z : Int)) = true := decide_eq_true (by omega)
                        go_wp2
                        go_ret
                        refine CtPost.no HBW1.out (fun h => by have h1 := (h.procs _ HLM.out).2.1; have h2 := HZZ.out; omega)
                      · have d2 : decide ((60 : Int) < (z : Int)) = false := decide_eq_false (by omega)
                        have HBR := Lib.hid HB.out
                        go_wp2
                        obtain ⟨wo, rfl⟩ : ∃ W, W = wr := ⟨_, rfl⟩
                        go_loopw [11, 82] (fun y x W => ∃ k s : Nat, x = .int .i64 (k : Int) ∧ k ≤ z ∧ y = .int .i64 (s : Int) ∧ s ≤ k * 2000000 ∧ Hid (s = ((lp.take k).map fun x => x.arcs.length).sum) ∧ Hid (∀ x ∈ lp.take k, ∀ a ∈ x.arcs, OkA i z a) ∧ Hid (Below wo.heap.size wo W)) (fun _ x _ => z - (intOf x).toNat)
                        case atStart => exact ⟨0, 0, rfl, Nat.zero_le _, rfl, Nat.zero_le _, by show _ = _; simp, by show ∀ z ∈ _, _; simp, Below.refl _ _⟩
                        case round =>
                          obtain ⟨k, s, hx, hk, hy, hsk, HSM, HA, HBK⟩ := hrel
                          subst hx
                          subst hy
                          have HBW2 : Hid (Below w.heap.size w wr) := HBW1.out.trans (HBK.out.mono HBW1.out.size)
                          by_cases hkz : k < z
                          · have hi2k : (k : Int) < (z : Int) := by omega
                            have hi0k : (0 : Int) ≤ (k : Int) := by omega
                            have hwik : IntKind.i64.wrap (k : Int) = (k : Int) := by rw [IntKind.wrap_i64]; omega
                            have hwjk : IntKind.i64.wrap ((k : Int) + 1) = (k : Int) + 1 := by rw [IntKind.wrap_i64]; omega
                            have hkl : k < lp.length := by rw [HZZ.out]; exact hkz
                            obtain ⟨gn, on, cn, c, he, hGn, hrn⟩ := (HR9.out.up (Keep.below HBK.out)).atN oneTNode (LsF.up (fun _ _ => oneTNode.up (Keep.below HBK.out)) _ HG9.out) hkl
                            injection he with he _ hec
                            subst he hec
                            obtain ⟨x, hx⟩ : ∃ x, lp[k] = x := ⟨_, rfl⟩
                            have HXX := Lib.hid hx
                            rw [hx] at hGn
                            obtain ⟨va0, fa, rfl, ra, ga⟩ := hGn
                            obtain ⟨aa, ac, rfl, hac, hac2, _⟩ := ra.form
                            obtain ⟨K, hK⟩ : ∃ K, x.arcs.length = K := ⟨_, rfl⟩
                            have HKK := Lib.hid hK
                            have hK2 : K ≤ 2000000 := by rw [← hK, ← hx]; exact HS.out.arcs lp HLM.out _ (List.getElem_mem hkl)
                            rw [hK] at hrn
                            have hone : ([.slice aa K ac, .bool x.fin, .bool x.prog, .bool x.acc] : List Value).all (·.oneCell') = true := by simp [Value.oneCell']
                            have HR := Lib.hid hrn
                            have HZ := Lib.hid (Holds.new wr 61 #[.slice none 0 0, .bool false, .bool false, .bool false])
                            have HRA := Lib.hid ra
                            have HGA := Lib.hid ga
                            have hws : IntKind.i64.wrap ((s : Int) + (K : Int)) = ((s + K : Nat) : Int) := by rw [IntKind.wrap_i64]; omega
                            clear hrn ra ga hx hK
                            go_wp2_with (first | (refine wpList_load_mid rfl 61 _ rfl gn (on + k * 4) rfl [.slice aa K ac, .bool x.fin, .bool x.prog, .bool x.acc] _ HR.out Try.underlying61 rfl sz_TNode ?_) | (refine wpList_storeB rfl 61 _ _ rfl wr.heap.size 0 [.slice aa K ac, .bool x.fin, .bool x.prog, .bool x.acc] rfl rfl HZ.out (Nat.le_of_ble_eq_true rfl) sz_TNode hone ?_))
                            refine Named.mk (fun w5 hW5 => ?_)
                            have hb5 : Below wr.heap.size wr w5 := by rw [hW5]; exact Below.far (Below.refl _ _) (Nat.le_refl _) _ _ _
                            have h13 : Holds w5 wr.heap.size 61 [.slice aa K ac, .bool x.fin, .bool x.prog, .bool x.acc] := HZ.out.stored hW5 (Nat.le_of_ble_eq_true rfl)
                            have e13 := h13.cell 0
                            simp only [List.getElem?_cons_zero] at e13
                            have HB5 : Hid (Below wo.heap.size wo w5) := HBK.out.trans (hb5.mono HBK.out.size)
                            have HRA5 := Lib.hid (HRA.out.up (Keep.below hb5))
                            have HGA5 := Lib.hid (LsF.up (fun _ _ => oneTArc.up (Keep.below hb5)) _ HGA.out)
                            clear hW5 hb5 h13 HZ HR hone HRA HGA
                            go_wp2
                            obtain ⟨wn, rfl⟩ : ∃ W, W = wr := ⟨_, rfl⟩
                            go_loopw [94] (fun y W => ∃ q : Nat, y = .int .i64 (q : Int) ∧ q ≤ K ∧ Hid (∀ a ∈ x.arcs.take q, OkA i z a) ∧ Hid (Below w5.heap.size w5 W)) (fun y _ => K - (intOf y).toNat)
                            case atStart => exact ⟨0, rfl, Nat.zero_le _, by show ∀ z ∈ _, _; simp, Below.refl _ _⟩
                            case round =>
                              obtain ⟨q, hy, hq, HAQ, HBQ⟩ := hrel
                              subst hy
                              have HBO : Hid (Below wo.heap.size wo wr) := HB5.out.trans (HBQ.out.mono HB5.out.size)
                              by_cases hqk : q < K
                              · have hi2q : (q : Int) < (K : Int) := by omega
                                have hi0q : (0 : Int) ≤ (q : Int) := by omega
                                have hwiq : IntKind.i64.wrap (q : Int) = (q : Int) := by rw [IntKind.wrap_i64]; omega
                                have hwjq : IntKind.i64.wrap ((q : Int) + 1) = (q : Int) + 1 := by rw [IntKind.wrap_i64]; omega
                                have hql : q < x.arcs.length := by rw [HKK.out]; exact hqk
                                obtain ⟨ga, oa, ca, c, he, hG, hr⟩ := (HRA5.out.up (Keep.below HBQ.out)).atN oneTArc (LsF.up (fun _ _ => oneTArc.up (Keep.below HBQ.out)) _ HGA5.out) hql
                                injection he with he _ hec
                                subst he hec
                                have hG : c = _ := hG
                                subst hG
                                obtain ⟨a, ha⟩ : ∃ a, x.arcs[q] = a := ⟨_, rfl⟩
                                have HAA := Lib.hid ha
                                rw [ha] at hr
                                obtain ⟨d, te, ob, va, pu, so, st, bad⟩ := a
                                have HR := Lib.hid hr
                                simp only [tarcC] at HR
                                have HZ := Lib.hid (Holds.new wr 64 #[.int .i64 0, .bool false, .int .i64 0, .int .i64 0, .bool false, .int .i64 0, .int .i64 0, .int .i64 0])
                                clear hr ha
                                go_wp2_with (first | (refine wpList_load_mid rfl 64 _ rfl ga (oa + q * 8) rfl [.int .i64 d, .bool te, .int .i64 ob, .int .i64 va, .bool pu, .int .i64 so, .int .i64 st, .int .i64 bad] _ HR.out Try.underlying64 rfl sz_TArc ?_) | (refine wpList_storeB rfl 64 _ _ rfl wr.heap.size 0 [.int .i64 d, .bool te, .int .i64 ob, .int .i64 va, .bool pu, .int .i64 so, .int .i64 st, .int .i64 bad] rfl rfl HZ.out (Nat.le_of_ble_eq_true rfl) sz_TArc rfl ?_))
                                refine Named.mk (fun w7 hW7 => ?_)
                                have hb7 : Below wr.heap.size wr w7 := by rw [hW7]; exact Below.far (Below.refl _ _) (Nat.le_refl _) _ _ _
                                have h15 : Holds w7 wr.heap.size 64 [.int .i64 d, .bool te, .int .i64 ob, .int .i64 va, .bool pu, .int .i64 so, .int .i64 st, .int .i64 bad] := HZ.out.stored hW7 (Nat.le_of_ble_eq_true rfl)
                                obtain ⟨b15, hb15⟩ : ∃ b, wr.heap.size = b := ⟨_, rfl⟩
                                rw [hb15] at h15 ⊢
                                have x0 := h15.cell 0
                                have x1 := h15.cell 1
                                have x2 := h15.cell 2
                                have x3 := h15.cell 3
                                have x4 := h15.cell 4
                                have x5 := h15.cell 5
                                have x6 := h15.cell 6
                                have x7 := h15.cell 7
                                simp only [List.getElem?_cons_zero, List.getElem?_cons_succ] at x0 x1 x2 x3 x4 x5 x6 x7
                                have HB7 : Hid (Below w5.heap.size w5 w7) := HBQ.out.trans (hb7.mono HBQ.out.size)
                                have HBO7 : Hid (Below wo.heap.size wo w7) := HB5.out.trans (HB7.out.mono HB5.out.size)
                                have HBW7 : Hid (Below w.heap.size w w7) := HBW1.out.trans (HBO7.out.mono HBW1.out.size)
                                have H14 := Lib.hid (H1.out.belowAll (HBR.out.trans (HBO7.out.mono HBR.out.size)))
                                clear hW7 hb7 h15 HZ HR hb15
                                go_upto_region 30 with (fail)
                                go_cut [148] (fun sv wx => ∃ b : Bool, sv = .bool b ∧ (b = false → OkA i z ⟨d, te, ob, va, pu, so, st, bad⟩) ∧ (b = true → ¬ GoodA i z ⟨d, te, ob, va, pu, so, st, bad⟩) ∧ wx = w7)
                                case first =>
                                  by_cases hd0 : d < 0
                                  · have d1 : decide (d < 0) = true := decide_eq_true hd0
                                    go_wp2
                                    go_meet
                                    case rel => exact ⟨true, rfl, fun h => (by cases h), fun _ h => (by have h1 : 0 ≤ d ∧ d < (z : Int) := h.dst; omega), rfl⟩
                                  · have d1 : decide (d < 0) = false := decide_eq_false hd0
                                    by_cases hd9 : (z : Int) ≤ d
                                    · have d2 : decide ((z : Int) ≤ d) = true := decide_eq_true hd9
                                      go_wp2
                                      go_meet
                                      case rel => exact ⟨true, rfl, fun h => (by cases h), fun _ h => (by have h1 : 0 ≤ d ∧ d < (z : Int) := h.dst; omega), rfl⟩
                                    · have d2 : decide ((z : Int) ≤ d) = false := decide_eq_false hd9
                                      have hd : 0 ≤ d ∧ d < (z : Int) := by omega
                                      clear hd0 hd9
                                      go_wp2_with (fail)
                                      refine (badFn bad _).mono ?_
                                      rintro e w9 ⟨rfl, rfl⟩
                                      cases hbad : (decide (bad < 0) || decide (5 < bad)) with
                                      | true =>
                                        go_wp2
                                        go_meet
                                        case rel => exact ⟨true, rfl, fun h => (by cases h), fun _ h => (by have h1 : (decide (bad < 0) || decide (5 < bad)) = false := h.bad; rw [hbad] at h1; cases h1), rfl⟩
                                      | false =>
                                        clear hbad
                                        cases te with
                                        | false =>
                                          cases pu with
                                          | false =>
                                            have HOKA : Hid (OkA i z ⟨d, false, ob, va, false, so, st, bad⟩) := ⟨hd, fun h => (by cases h), fun h => (by cases h)⟩
                                            go_wp2
                                            go_meet
                                            case rel => exact ⟨false, rfl, fun _ => HOKA.out, fun h => (by cases h), rfl⟩
                                          | true =>
                                            go_wp2_with (fail)
                                            refine (objectFn so H14.out).mono ?_
                                            rintro e w9 ⟨rfl, rfl⟩
                                            cases hso : okO i so with
                                            | false =>
                                              go_wp2
                                              go_meet
                                              case rel => exact ⟨true, rfl, fun h => (by cases h), fun _ h => (by have h1 : okO i so = true := (h.put rfl).1; rw [hso] at h1; cases h1), rfl⟩
                                            | true =>
                                              go_wp2_with (fail)
                                              refine (valueFn st _).mono ?_
                                              rintro e w9 ⟨rfl, rfl⟩
                                              cases hst : okV st with
                                              | false =>
                                                go_wp2
                                                go_meet
                                                case rel => exact ⟨true, rfl, fun h => (by cases h), fun _ h => (by have h1 : okV st = true := (h.put rfl).2; rw [hst] at h1; cases h1), rfl⟩
                                              | true =>
                                                have HOKA : Hid (OkA i z ⟨d, false, ob, va, true, so, st, bad⟩) := ⟨hd, fun h => (by cases h), fun _ => by
                                                  unfold okO at hso
                                                  unfold okV at hst
                                                  simp only [Bool.and_eq_true, decide_eq_true_eq] at hso hst
                                                  exact ⟨hso, hst⟩⟩
                                                clear hso hst
                                                go_wp2
                                                go_meet
                                                case rel => exact ⟨false, rfl, fun _ => HOKA.out, fun h => (by cases h), rfl⟩
                                        | true =>
                                          go_wp2_with (fail)
                                          refine (objectFn ob H14.out).mono ?_
                                          rintro e w9 ⟨rfl, rfl⟩
                                          cases hob : okO i ob with
                                          | false =>
                                            go_wp2
                                            go_meet
                                            case rel => exact ⟨true, rfl, fun h => (by cases h), fun _ h => (by have h1 : okO i ob = true := (h.test rfl).1; rw [hob] at h1; cases h1), rfl⟩
                                          | true =>
                                            have HTO : Hid (0 ≤ ob ∧ ob < (i : Int)) := by
                                              unfold okO at hob
                                              simp only [Bool.and_eq_true, decide_eq_true_eq] at hob
                                              exact hob
                                            clear hob
                                            go_wp2_with (fail)
                                            refine (valueFn va _).mono ?_
                                            rintro e w9 ⟨rfl, rfl⟩
                                            cases hva : okV va with
                                            | false =>
                                              go_wp2
                                              go_meet
                                              case rel => exact ⟨true, rfl, fun h => (by cases h), fun _ h => (by have h1 : okV va = true := (h.test rfl).2; rw [hva] at h1; cases h1), rfl⟩
                                            | true =>
                                              clear hva
                                              cases pu with
                                              | false =>
                                                have HOKA : Hid (OkA i z ⟨d, true, ob, va, false, so, st, bad⟩) := ⟨hd, fun _ => HTO.out, fun h => (by cases h)⟩
                                                go_wp2
                                                go_meet
                                                case rel => exact ⟨false, rfl, fun _ => HOKA.out, fun h => (by cases h), rfl⟩
                                              | true =>
                                                go_wp2_with (fail)
                                                refine (objectFn so H14.out).mono ?_
                                                rintro e w9 ⟨rfl, rfl⟩
                                                cases hso : okO i so with
                                                | false =>
                                                  go_wp2
                                                  go_meet
                                                  case rel => exact ⟨true, rfl, fun h => (by cases h), fun _ h => (by have h1 : okO i so = true := (h.put rfl).1; rw [hso] at h1; cases h1), rfl⟩
                                                | true =>
                                                  go_wp2_with (fail)
                                                  refine (valueFn st _).mono ?_
                                                  rintro e w9 ⟨rfl, rfl⟩
                                                  cases hst : okV st with
                                                  | false =>
                                                    go_wp2
                                                    go_meet
                                                    case rel => exact ⟨true, rfl, fun h => (by cases h), fun _ h => (by have h1 : okV st = true := (h.put rfl).2; rw [hst] at h1; cases h1), rfl⟩
                                                  | true =>
                                                    have HOKA : Hid (OkA i z ⟨d, true, ob, va, true, so, st, bad⟩) := ⟨hd, fun _ => HTO.out, fun _ => by
                                                      unfold okO at hso
                                                      unfold okV at hst
                                                      simp only [Bool.and_eq_true, decide_eq_true_eq] at hso hst
                                                      exact ⟨hso, hst⟩⟩
                                                    clear hso hst
                                                    go_wp2
                                                    go_meet
                                                    case rel => exact ⟨false, rfl, fun _ => HOKA.out, fun h => (by cases h), rfl⟩
                                case rest =>
                                  obtain ⟨b, rfl, hbo, hbn, rfl⟩ := hcut
                                  clear x0 x1 x2 x3 x4 x5 x6 x7
                                  cases b with
                                  | true =>
                                    have HNG : Hid (¬ GoodT t) := fun h => hbn rfl (by have h1 := (h.procs _ HLM.out).2.2.2 x (by rw [← HXX.out]; exact List.getElem_mem hkl) (x.arcs[q]) (List.getElem_mem hql); rw [HNN.out, HZZ.out, HAA.out] at h1; exact h1)
                                    clear hbo hbn
                                    go_wp2
                                    go_ret
                                    exact CtPost.no HBW7.out HNG.out
                                  | false =>
                                    have HAN : Hid (∀ a ∈ x.arcs.take (q + 1), OkA i z a) := fun y hy => by
                                      rw [List.take_add_one, List.getElem?_eq_getElem hql, HAA.out] at hy
                                      rcases List.mem_append.1 hy with hy | hy
                                      · exact HAQ.out y hy
                                      · simp at hy
                                        subst hy
                                        exact hbo rfl
                                    clear hbo hbn
                                    go_wp2
                                    refine ⟨⟨q + 1, by simp, by omega, HAN, HB7⟩, ?_⟩
                                    simp [intOf]
                                    omega
                              · obtain rfl : q = K := by omega
                                have HAN : Hid (∀ x ∈ lp.take (k + 1), ∀ a ∈ x.arcs, OkA i z a) := fun y hy => by
                                  rw [List.take_add_one, List.getElem?_eq_getElem hkl, HXX.out] at hy
                                  rcases List.mem_append.1 hy with hy | hy
                                  · exact HA.out y hy
                                  · simp at hy
                                    subst hy
                                    intro a ha
                                    exact HAQ.out a (by rw [List.take_of_length_le (by rw [HKK.out]; exact Nat.le_refl _)]; exact ha)
                                have HSN : Hid (s + q = ((lp.take (k + 1)).map fun x => x.arcs.length).sum) := by
                                  show _ = _
                                  rw [List.take_add_one, List.getElem?_eq_getElem hkl, HXX.out, List.map_append, List.sum_append, ← HSM.out]
                                  simp [HKK.out]
                                go_wp2
                                refine ⟨⟨k + 1, s + q, by simp, by omega, rfl, by omega, HSN, HAN, HBO⟩, ?_⟩
                                simp [intOf]
                                omega
                          · obtain rfl : k = z := by omega
                            have hbk : Below w1.heap.size w1 wr := HBR.out.trans (HBK.out.mono HBR.out.size)
                            have HBKK := Lib.hid hbk
                            clear hbk
                            by_cases hs1000 : 1000 < s
                            · have d3 : decide ((1000 : Int) < (s : Int)) = true := decide_eq_true (by omega)
                              go_wp2
                              go_ret
                              refine CtPost.no HBW2.out (fun h => by have h1 := (h.procs _ HLM.out).2.2.1; have h2 := sum_take_le lp k; have h3 := HSM.out; omega)
                            · have d3 : decide ((1000 : Int) < (s : Int)) = false := decide_eq_false (by omega)
                              have HGN : Hid (∀ l ∈ t.procs.take (p + 1), ProcOk i l) := fun y hy => by
                                rw [List.take_add_one, List.getElem?_eq_getElem hpl, HLP.out] at hy
                                rcases List.mem_append.1 hy with hy | hy
                                · exact HG.out y hy
                                · simp at hy
                                  subst hy
                                  have ht : y.take k = y := List.take_of_length_le (by rw [HZZ.out]; exact Nat.le_refl _)
                                  have h1 := HSM.out
                                  have h2 := HA.out
                                  rw [ht] at h1 h2
                                  exact ⟨by rw [HZZ.out]; omega, by rw [HZZ.out]; omega, by omega, fun x hx a ha => by rw [HZZ.out]; exact h2 x hx a ha⟩
                              go_wp2
                              refine ⟨⟨p + 1, by simp, by omega, HGN, HBKK⟩, ?_⟩
                              simp [intOf]
                              omega
                  · obtain rfl : p = M := by omega
                    have HOKT : Hid (OkT t) := ⟨⟨by rw [HNN.out]; omega, by rw [HMM.out]; omega, by rw [HQQ.out]; omega⟩, HGI.out, HGQ.out, fun l hl => by
                      have h := HG.out l (by rw [List.take_of_length_le (by rw [HMM.out]; exact Nat.le_refl _)]; exact hl)
                      rw [HNN.out]
                      exact h⟩
                    go_wp2
                    go_ret
                    exact ⟨HBW1.out, 0, rfl, fun _ => HOKT.out, .inl rfl⟩
end Go.Proofs.Ytcopoaaofjeklaa.G
