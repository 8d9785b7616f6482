/- The walk of threads.state. -/
import Derived.Test.YtcopoaaofjeklaaTsy
import Derived.Test.YtcopoaaofjeklaaNums
namespace Go.Proofs.Ytcopoaaofjeklaa.G
open Go.RowKit
set_option linter.unusedVariables false
set_option linter.unusedSimpArgs false

/-- A row of numbers in a block of its own behind lo. -/
def RowI (lo : Nat) (w : World) (v : Value) (l : List Nat) : Prop := ∃ a cap, v = .slice a l.length cap ∧ l.length ≤ cap ∧ cap ≤ 9223372036854775807 ∧ (a = none → cap = 0) ∧ (0 < l.length → ∃ g o cs, a = some ⟨g, o, none⟩ ∧ lo ≤ g ∧ Holds w g 3 cs ∧ ∀ j, j < l.length → cs[o + j]? = (l.map natV)[j]?)
theorem RowI.row {lo : Nat} {w : World} {v : Value} {l : List Nat} (h : RowI lo w v l) : RowL (From lo) w 1 v l.length (l.map natV) := by
  obtain ⟨a, cap, h1, h2, h3, h4, h5⟩ := h
  refine ⟨a, cap, h1, h2, h3, by simp, h4, fun h => ?_⟩
  obtain ⟨g, o, cs, k1, k2, k3, k4⟩ := h5 h
  exact ⟨g, o, cs, _, k1, k2, k3.r, fun j hj => k4 j (by omega)⟩
theorem RowI.kept {lo : Nat} {w w' : World} {v : Value} {l : List Nat} (h : RowI lo w v l) (hk : ∀ k cs, lo ≤ k → Holds w k 3 cs → Holds w' k 3 cs) : RowI lo w' v l := by
  obtain ⟨a, cap, h1, h2, h3, h4, h5⟩ := h
  refine ⟨a, cap, h1, h2, h3, h4, fun h => ?_⟩
  obtain ⟨g, o, cs, k1, k2, k3, k4⟩ := h5 h
  exact ⟨g, o, cs, k1, k2, hk g cs k2 k3, k4⟩
theorem RowI.below {lo : Nat} {w w' : World} {v : Value} {l : List Nat} (h : RowI lo w v l) (hb : Below w.heap.size w w') : RowI lo w' v l := h.kept fun k cs _ h => h.belowAll hb
theorem RowI.wide {lo lo' : Nat} {w : World} {v : Value} {l : List Nat} (h : RowI lo w v l) (hl : lo' ≤ lo) : RowI lo' w v l := by
  obtain ⟨a, cap, h1, h2, h3, h4, h5⟩ := h
  refine ⟨a, cap, h1, h2, h3, h4, fun h => ?_⟩
  obtain ⟨g, o, cs, k1, k2, k3, k4⟩ := h5 h
  exact ⟨g, o, cs, k1, Nat.le_trans hl k2, k3, k4⟩
theorem RowI.nil (lo : Nat) (w : World) : RowI lo w (.slice none 0 0) [] := ⟨none, 0, rfl, by simp, by omega, fun _ => rfl, fun h => absurd h (by simp)⟩
theorem inAll_succ : ∀ {l : List Nat} {r : List (List TNode)} {i : Nat} (h : i < l.length) (h2 : i < r.length), inAll (l.take (i + 1)) r = (inAll (l.take i) r && decide (l[i] < r[i].length))
  | k :: l, p :: r, 0, h, h2 => by simp [inAll]
  | k :: l, p :: r, i + 1, h, h2 => by
    simp only [List.take_succ_cons, inAll, List.getElem_cons_succ]
    rw [inAll_succ (l := l) (r := r) (i := i) (by simpa using h) (by simpa using h2), Bool.and_assoc]
theorem tstate_eq {t : PThr} {s : ByteArray} {ns : List Nat} {n m : Nat} (h : nums 20000 (n + m) s.data.toList = some (ns, [])) (hn : t.init.length = n) (hm : t.procs.length = m) : tstate t s = if (ns.take n).all (fun v => decide (v ≤ 255)) && inAll (ns.drop n) t.procs then some (ns.take n, ns.drop n) else none := by
  unfold tstate
  rw [hn, hm, h]
theorem RowI.of {w : World} {lo g o N cap : Nat} {cs : List Value} {l ns : List Nat} (h : Holds w g 3 cs) (hg : lo ≤ g) (hc : ∀ j, j < N → cs[j]? = (ns.map natV)[j]?) (hl : ∀ j, j < l.length → o + j < N ∧ ns[o + j]? = l[j]?) (h1 : l.length ≤ cap) (h2 : cap ≤ 9223372036854775807) : RowI lo w (.slice (some ⟨g, o, none⟩) l.length cap) l :=
  ⟨_, _, rfl, h1, h2, fun h => (by cases h), fun _ => ⟨g, o, cs, rfl, hg, h, fun j hj => by rw [hc _ (hl j hj).1, List.getElem?_map, List.getElem?_map, (hl j hj).2]⟩⟩
def StatePost (t : PThr) (s : ByteArray) (w : World) (e : Ending) (w' : World) : Prop := Below w.heap.size w w' ∧ match tstate t s with
  | some (vs, ns) => ∃ v1 v2, e = .returned (.tuple #[v1, v2, .bool true]) ∧ RowI w.heap.size w' v1 vs ∧ RowI w.heap.size w' v2 ns
  | none => ∃ v1 v2, e = .returned (.tuple #[v1, v2, .bool false])
set_option maxHeartbeats 4000000 in
set_option maxRecDepth 100000 in
theorem stateFn {P : Nat → Prop} {w : World} {t : PThr} {vi vp vq : Value} {s : ByteArray} (h : ThrV P w vi vp vq t) (ht : OkT t) (hs : s.size ≤ 1048576) : Calls Try.prog 55 #[.agg #[vi, vp, vq], .string s] w (StatePost t s w) := by
  obtain ⟨l16, l8, l60⟩ := ht.len
  obtain ⟨fp, hrp, hgp⟩ := h.procs
  obtain ⟨ai, ci, rfl, hci, _, _⟩ := h.init.form
  obtain ⟨ap, cp, rfl, hcp, _, _⟩ := hrp.form
  obtain ⟨w1, hw1⟩ : ∃ W, W = w.alloc (.cells #[.slice ai t.init.length ci, .slice ap t.procs.length cp, vq] 66) := ⟨_, rfl⟩
  have hb1 : Below w.heap.size w w1 := by rw [hw1]; exact (Below.refl _ _).alloc (Nat.le_refl _) _
  have h2 : Holds w1 w.heap.size 66 [.slice ai t.init.length ci, .slice ap t.procs.length cp, vq] := by rw [hw1]; exact Holds.new w 66 #[.slice ai t.init.length ci, .slice ap t.procs.length cp, vq]
  have HRP := Lib.hid (hrp.up (Keep.below hb1))
  have HGP := Lib.hid (LsF.up (fun _ _ => oneTProc.up (Keep.below hb1)) _ hgp)
  have H2 := Lib.hid h2
  have HB1 := Lib.hid hb1
  have HS := Lib.hid hs
  have HQ := Lib.hid (numbersFn (w := w1) (s := s) (m := t.init.length + t.procs.length) hs (by omega))
  obtain ⟨n, hn⟩ : ∃ n, t.init.length = n := ⟨_, rfl⟩
  obtain ⟨m, hm⟩ : ∃ n, t.procs.length = n := ⟨_, rfl⟩
  have HN := Lib.hid hn
  have HM := Lib.hid hm
  rw [hn, hm] at HQ hw1 H2
  rw [hn] at hci l16
  rw [hm] at hcp l8
  rw [hn, hm]
  have e0 := H2.out.cell 0
  have e1 := H2.out.cell 1
  simp only [List.getElem?_cons_zero, List.getElem?_cons_succ] at e0 e1
  have hwn : IntKind.i64.wrap ((n : Int) + (m : Int)) = ((n + m : Nat) : Int) := by rw [IntKind.wrap_i64]; omega
  rw [hw1] at e0 e1
  clear h ht hrp hgp hs hb1 h2 hn hm
  go_enter Try.func55, Try.ntmps55
  go_wp2_with (fail)
  rw [← hw1]
  refine HQ.out.mono ?_
  rintro e w2 ⟨hb2, hp⟩
  have HB2 := Lib.hid (HB1.out.trans (hb2.mono HB1.out.size))
  have HB12 := Lib.hid hb2
  obtain ⟨r, hr⟩ : ∃ r, nums 20000 (n + m) s.data.toList = r := ⟨_, rfl⟩
  rw [hr] at hp
  have HRR := Lib.hid hr
  clear HQ hr hb2 e0 e1 hw1
  cases r with
  | none =>
    have hp2 : e = .returned (.tuple #[.slice none 0 0, .bool false]) := hp
    subst hp2
    go_wp2
    go_ret3
    refine ⟨HB2.out, ?_⟩
    unfold tstate
    rw [HN.out, HM.out, HRR.out]
    exact ⟨_, _, rfl⟩
  | some p =>
    obtain ⟨ns, l⟩ := p
    obtain ⟨v, rfl, hown⟩ := hp
    cases l with
    | cons b l =>
      simp only [List.isEmpty_cons]
      go_wp2
      go_ret3
      refine ⟨HB2.out, ?_⟩
      unfold tstate
      rw [HN.out, HM.out, HRR.out]
      exact ⟨_, _, rfl⟩
    | nil =>
      simp only [List.isEmpty_nil]
      have hnl := nums_len _ _ HRR.out
      rcases hown.2 with ⟨h1, h0⟩ | ⟨g, cap, cur, hv, hb, hg, hnc, hcm, hcs, htk⟩
      · subst h1
        obtain ⟨rfl, rfl⟩ : n = 0 ∧ m = 0 := by omega
        obtain rfl : ns = [] := List.eq_nil_of_length_eq_zero (by omega)
        go_wp2
        go_quiet (fail)
        go_wp2
        refine wp_loop_once ?_
        go_wp2
        refine wp_loop_once ?_
        go_wp2
        go_ret3
        have hB : Below w.heap.size w (w2.drewN nq) := ((Fr.of_below HB2.out (fun _ => False)).drewN nq).to_below (Nat.le_refl _) fun _ _ h => h
        refine ⟨hB, ?_⟩
        have hp : t.procs = [] := List.eq_nil_of_length_eq_zero HM.out
        rw [tstate_eq HRR.out HN.out HM.out, hp]
        exact ⟨_, _, rfl, RowI.nil _ _, RowI.nil _ _⟩
      · subst hv
        have HNL := Lib.hid hnl
        have hH : Holds w2 g 3 cur.toList := by unfold Holds; rw [hg]
        have HH := Lib.hid hH
        have HCC : Hid (∀ j, j < ns.length → cur.toList[j]? = (ns.map natV)[j]?) := fun j hj => by
          rw [← htk, List.getElem?_take_of_lt (by omega)]
        have hgb : w.heap.size ≤ g := Nat.le_trans HB1.out.size hb
        have hcm2 : cap ≤ 9223372036854775807 := by unfold maxLen at hcm; omega
        rw [hnl] at hnc ⊢
        clear hown hg hcs htk hnl hH hb hcm
        go_wp2
        go_quiet (fail)
        obtain ⟨w3, hw3⟩ : ∃ W, W = w2.drewN nq := ⟨_, rfl⟩
        have HB3 : Hid (Below w.heap.size w w3) := by rw [hw3]; exact ((Fr.of_below HB2.out (fun _ => False)).drewN nq).to_below (Nat.le_refl _) fun _ _ h => h
        have hb13 : Below w1.heap.size w1 w3 := by rw [hw3]; exact ((Fr.of_below HB12.out (fun _ => False)).drewN nq).to_below (Nat.le_refl _) fun _ _ h => h
        have HH3 : Hid (Holds w3 g 3 cur.toList) := by rw [hw3]; exact HH.out.of_eq rfl
        have h23 := (H2.out.belowAll hb13).cell 1
        simp only [List.getElem?_cons_zero, List.getElem?_cons_succ] at h23
        have HR3 := Lib.hid (HRP.out.up (Keep.below hb13))
        have HG3 := Lib.hid (LsF.up (fun _ _ => oneTProc.up (Keep.below hb13)) _ HGP.out)
        rw [← hw3]
        clear hw3 hb13 HB12 HB2 HH HRP HGP H2 HB1
        obtain ⟨o2, ho2, ho3⟩ : ∃ o2, (if cap = n then some (⟨g, 0, none⟩ : Addr) else some ⟨g, n, none⟩) = some ⟨g, o2, none⟩ ∧ (0 < m → o2 = n) := by
          by_cases h : cap = n
          · exact ⟨0, by rw [if_pos h], fun hm => by omega⟩
          · exact ⟨n, by rw [if_neg h], fun _ => rfl⟩
        rw [ho2]
        clear ho2
        have HV1 : Hid (RowI w.heap.size w3 (.slice (some ⟨g, 0, none⟩) n cap) (ns.take n)) := by
          have hl : (ns.take n).length = n := by rw [List.length_take, HNL.out]; omega
          have h := RowI.of (l := ns.take n) (cap := cap) (o := 0) HH3.out hgb HCC.out (fun j hj => ⟨by rw [HNL.out]; omega, by rw [Nat.zero_add, List.getElem?_take_of_lt (by omega)]⟩) (by omega) hcm2
          rw [hl] at h
          exact h
        have HV2 : Hid (RowI w.heap.size w3 (.slice (some ⟨g, o2, none⟩) m (cap - n)) (ns.drop n)) := by
          have hl : (ns.drop n).length = m := by rw [List.length_drop, HNL.out]; omega
          have h := RowI.of (l := ns.drop n) (cap := cap - n) (o := o2) HH3.out hgb HCC.out (fun j hj => ⟨by rw [HNL.out]; have := ho3 (by omega); omega, by rw [List.getElem?_drop, ho3 (by omega)]⟩) (by omega) (by omega)
          rw [hl] at h
          exact h
        obtain ⟨P1, hP1⟩ : ∃ f : Nat → Bool, f = fun i => ((ns.take n).take i).all (fun v => decide (v ≤ 255)) := ⟨_, rfl⟩
        have HP1 := Lib.hid hP1
        have hp0 : P1 0 = true := by rw [hP1]; rfl
        clear hP1
        go_wp2
        go_loopw [6, 38] (fun b x W => ∃ i : Nat, x = .int .i64 (i : Int) ∧ i ≤ n ∧ b = .bool (P1 i) ∧ W = w3) (fun _ x _ => n - (intOf x).toNat)
        case atStart => exact ⟨0, rfl, Nat.zero_le _, by rw [hp0], rfl⟩
        case round =>
          obtain ⟨i, hx, hi, hb, rfl⟩ := hrel
          subst hx
          subst hb
          by_cases hin : i < n
          · have hi2i : (i : Int) < (n : Int) := by omega
            have hi0i : (0 : Int) ≤ (i : Int) := by omega
            have hwii : IntKind.i64.wrap (i : Int) = (i : Int) := by rw [IntKind.wrap_i64]; omega
            have hwji : IntKind.i64.wrap ((i : Int) + 1) = (i : Int) + 1 := by rw [IntKind.wrap_i64]; omega
            have hil : i < ns.length := by rw [HNL.out]; omega
            have hc : wr.cell? ⟨g, i, none⟩ = some (.int .i64 (ns[i] : Int)) := (HH3.out.cell i).trans (by rw [HCC.out i hil, List.getElem?_map, List.getElem?_eq_getElem hil]; rfl)
            obtain ⟨q, hq⟩ : ∃ q, ns[i] = q := ⟨_, rfl⟩
            have HPS : Hid (P1 (i + 1) = (P1 i && decide ((q : Int) ≤ 255))) := by
              show _ = _
              rw [HP1.out]
              dsimp only
              rw [List.take_add_one, List.getElem?_take_of_lt hin, List.getElem?_eq_getElem hil, hq, List.all_append]
              simp
              congr 1
              exact decide_eq_decide.2 (by omega)
            rw [hq] at hc
            clear hq
            cases hb : P1 i with
            | true =>
              rw [hb, Bool.true_and] at HPS
              go_wp2
              refine ⟨⟨i + 1, by simp, by omega, by rw [HPS.out], trivial⟩, ?_⟩
              simp [intOf]
              omega
            | false =>
              rw [hb, Bool.false_and] at HPS
              go_wp2
              refine ⟨⟨i + 1, by simp, by omega, by rw [HPS.out], trivial⟩, ?_⟩
              simp [intOf]
              omega
          · obtain rfl : i = n := by omega
            have HO3 := Lib.hid ho3
            clear hin hp0 hi ho3
            obtain ⟨P2, hP2⟩ : ∃ f : Nat → Bool, f = fun j => P1 i && inAll ((ns.drop i).take j) t.procs := ⟨_, rfl⟩
            have HP2 := Lib.hid hP2
            have hq0 : P2 0 = P1 i := by rw [hP2]; show (P1 i && inAll [] t.procs) = _; simp [inAll]
            clear hP2
            go_wp2
            obtain ⟨wo, rfl⟩ : ∃ W, W = wr := ⟨_, rfl⟩
            go_loopw [6, 50] (fun b x W => ∃ j : Nat, x = .int .i64 (j : Int) ∧ j ≤ m ∧ b = .bool (P2 j) ∧ W = wo) (fun _ x _ => m - (intOf x).toNat)
            case atStart => exact ⟨0, rfl, Nat.zero_le _, by rw [hq0], rfl⟩
            case round =>
              obtain ⟨j, hx, hj, hb, rfl⟩ := hrel
              subst hx
              subst hb
              by_cases hjm : j < m
              · have hi2j : (j : Int) < (m : Int) := by omega
                have hi0j : (0 : Int) ≤ (j : Int) := by omega
                have hwij : IntKind.i64.wrap (j : Int) = (j : Int) := by rw [IntKind.wrap_i64]; omega
                have hwjj : IntKind.i64.wrap ((j : Int) + 1) = (j : Int) + 1 := by rw [IntKind.wrap_i64]; omega
                have hil : i + j < ns.length := by rw [HNL.out]; omega
                have hpl : j < t.procs.length := by rw [HM.out]; omega
                have ho := Lib.hid (HO3.out (by omega))
                have hc : wr.cell? ⟨g, o2 + j, none⟩ = some (.int .i64 (ns[i + j] : Int)) := (HH3.out.cell (o2 + j)).trans (by rw [ho.out, HCC.out (i + j) hil, List.getElem?_map, List.getElem?_eq_getElem hil]; rfl)
                obtain ⟨q, hq⟩ : ∃ q, ns[i + j] = q := ⟨_, rfl⟩
                obtain ⟨gp, op, cp2, c, he, hG, hr⟩ := HR3.out.atN oneTProc HG3.out hpl
                injection he with he _ hec
                subst he hec
                obtain ⟨v9, f9, rfl, r9, _⟩ := hG
                obtain ⟨a9, c9, rfl, _, _, _⟩ := r9.form
                have hcp2 := hr 0 (.slice a9 t.procs[j].length c9) rfl
                rw [Nat.add_zero, Nat.mul_one] at hcp2
                have HPS : Hid (P2 (j + 1) = (P2 j && decide (q < t.procs[j].length))) := by
                  show _ = _
                  rw [HP2.out]
                  dsimp only
                  have hdl : (ns.drop i).length = m := by rw [List.length_drop, HNL.out]; omega
                  rw [inAll_succ (by rw [hdl]; exact hjm) hpl, ← Bool.and_assoc, List.getElem_drop, hq]
                rw [hq] at hc
                generalize t.procs[j].length = z at *
                clear hq r9 hr
                cases hb : P2 j with
                | true =>
                  rw [hb, Bool.true_and] at HPS
                  go_wp2
                  refine ⟨⟨j + 1, by simp, by omega, by rw [HPS.out], trivial⟩, ?_⟩
                  simp [intOf]
                  omega
                | false =>
                  rw [hb, Bool.false_and] at HPS
                  go_wp2
                  refine ⟨⟨j + 1, by simp, by omega, by rw [HPS.out], trivial⟩, ?_⟩
                  simp [intOf]
                  omega
              · obtain rfl : j = m := by omega
                have HF : Hid (P2 j = ((ns.take i).all (fun v => decide (v ≤ 255)) && inAll (ns.drop i) t.procs)) := by
                  show _ = _
                  rw [HP2.out, HP1.out]
                  dsimp only
                  rw [List.take_take, Nat.min_self, List.take_of_length_le (l := ns.drop i) (by rw [List.length_drop, HNL.out]; omega)]
                go_wp2
                go_ret3
                refine ⟨HB3.out, ?_⟩
                rw [tstate_eq HRR.out HN.out HM.out, ← HF.out]
                cases P2 j with
                | true => exact ⟨_, _, rfl, HV1.out, HV2.out⟩
                | false => exact ⟨_, _, rfl⟩
end Go.Proofs.Ytcopoaaofjeklaa.G
