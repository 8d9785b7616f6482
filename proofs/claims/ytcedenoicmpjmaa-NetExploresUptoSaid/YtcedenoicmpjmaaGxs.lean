/- The statements' explores at any system. -/
import Derived.Test.YtcedenoicmpjmaaGew
import Derived.Test.YtcedenoicmpjmaaNets
namespace Go.Proofs.Ytcedenoicmpjmaa.G
open Go.RowKit Go.Maps
set_option linter.unusedVariables false
set_option linter.unusedSimpArgs false

theorem stepA_of {most : Nat} {st st1 : List ByteArray} {a : PMove} {b : PArc} (hs : stepA most st a = some (st1, b)) : b.reads = a.reads ∧ b.writes = a.writes := by
  unfold stepA at hs
  split at hs
  · split at hs
    · injection hs with hs; injection hs with _ hs; subst hs; exact ⟨rfl, rfl⟩
    · split at hs
      · cases hs
      · injection hs with hs; injection hs with _ hs; subst hs; exact ⟨rfl, rfl⟩
  · injection hs with hs; injection hs with _ hs; subst hs; exact ⟨rfl, rfl⟩
theorem stepAs_of {most : Nat} : ∀ {l : List PMove} {c : Nat} {st st1 : List ByteArray} {bs : List PArc}, stepAs most c st l = some (st1, bs) → ∀ b ∈ bs, ∃ a ∈ l, b.reads = a.reads ∧ b.writes = a.writes
  | [], c, st, st1, bs, hs => by
    rw [stepAs] at hs; injection hs with hs; injection hs with hs hs'; subst hs'; intro b hb; cases hb
  | a :: l, c, st, st1, bs, hs => by
    rw [stepAs] at hs
    split at hs
    · cases hs
    · rename_i st' b e1
      by_cases hc : 262144 < c + 1
      · rw [if_pos hc] at hs; cases hs
      · rw [if_neg hc] at hs
        split at hs
        · cases hs
        · rename_i st2 bs2 e2
          injection hs with hs; injection hs with hs hs'; subst hs'
          intro x hx
          rcases List.mem_cons.1 hx with rfl | hx
          · exact ⟨a, by simp, stepA_of e1⟩
          · obtain ⟨a', h1, h2⟩ := stepAs_of e2 x hx
            exact ⟨a', List.mem_cons_of_mem _ h1, h2⟩
theorem exF_small {S : Sys} (hS : SmallS S) {most : Nat} : ∀ (fu i c : Nat) {st st2 : List ByteArray} {g : PNet}, Met most st → i ≤ st.length → c ≤ 262144 → exF S most fu i c st = some (st2, g) →
    Met most st2 ∧ i + g.length = st2.length ∧ c + total g ≤ 262144 ∧ ∀ x ∈ g, ∀ a ∈ x.arcs, a.reads.length ≤ 2000000 ∧ a.writes.length ≤ 2000000
  | 0, i, c, st, st2, g, hm, hi, hc, h => by rw [exF] at h; cases h
  | fu + 1, i, c, st, st2, g, hm, hi, hc, h => by
    rw [exF] at h
    split at h
    · rename_i e
      injection h with h; injection h with h h'; subst h; subst h'
      have := List.getElem?_eq_none_iff.1 e
      exact ⟨hm, by simp; omega, by simpa [total] using hc, by simp⟩
    · rename_i s e
      obtain ⟨hl, hs⟩ := List.getElem?_eq_some_iff.1 e
      have hsz : s.size ≤ 1048576 := by rw [← hs]; exact hm.size _ (List.getElem_mem hl)
      split at h
      · cases h
      · rename_i st1 bs e1
        obtain ⟨h1, h2, h3, h4⟩ := stepAs_met hm (fun a ha => hS.dsts s hsz a ha) e1
        have h5 := h2.length_le
        split at h
        · cases h
        · rename_i st3 out e2
          injection h with h; injection h with h h'; subst h; subst h'
          obtain ⟨q1, q2, q3, q4⟩ := exF_small hS fu (i + 1) (c + (S.next s).length) h1 (by omega) (h4 hc) e2
          refine ⟨q1, by rw [List.length_cons]; omega, by simp only [total, List.map_cons, List.sum_cons] at q3 ⊢; omega, fun x hx a ha => ?_⟩
          rcases List.mem_cons.1 hx with rfl | hx
          · obtain ⟨a', k1, k2, k3⟩ := stepAs_of e1 a ha
            rw [k2, k3]
            exact hS.reads s hsz a' k1
          · exact q4 x hx a ha
theorem exF_fit {S : Sys} (hS : SmallS S) {most : Nat} (h1 : 1 ≤ most) (h2 : most ≤ 20000) {st : List ByteArray} {g : PNet} (h : exF S most 20001 0 0 [S.beg] = some (st, g)) : Small g ∧ g.length = st.length ∧ st.length ≤ 20000 := by
  obtain ⟨q1, q2, q3, q4⟩ := exF_small hS 20001 0 0 (by refine ⟨by simp, by simpa using hS.beg, by simp; omega⟩) (Nat.zero_le _) (Nat.zero_le _) h
  have := q1.len
  refine ⟨⟨by omega, by omega, fun i hi j hj => q4 _ (List.getElem_mem hi) _ (List.getElem_mem hj)⟩, by omega, by omega⟩
/-- Explore refuses. -/
def BadPost (w : World) (e : Ending) (w' : World) : Prop := e = .returned (.tuple #[.agg #[.slice none 0 0], .slice none 0 0, .int .i64 1]) ∧ Below w.heap.size w w'
theorem bad_end {W : World} {b4 b5 b6 : Nat} {tmps : Array Value} {vn vs : Value} {c : Int} (h4 : Holds W b4 24 [vn]) (h5 : Holds W b5 46 [vs]) (h6 : Holds W b6 28 [.int .i64 c])
    (t4 : tmps.getD 4 undef = .pointer (some ⟨b4, 0, none⟩)) (t5 : tmps.getD 5 undef = .pointer (some ⟨b5, 0, none⟩)) (t6 : tmps.getD 6 undef = .pointer (some ⟨b6, 0, none⟩)) : (results Try.f17 tmps).run Try.prog W = .ok (.tuple #[.agg #[vn], vs, .int .i64 c]) W :=
  results_cells3 (fn := Try.f17) rfl t4 t5 t6 (run_loadVar_mid W b4 0 24 [vn] _ (h4.range (n := 1) rfl) Try.underlying24 rfl sz_NetE) (load_strs h5) (load_errno h6)
set_option maxHeartbeats 4000000 in
set_option maxRecDepth 100000 in
theorem exploreNil {w : World} {most : Int} : Calls Try.prog 17 #[.nilIface, .int .i64 most] w (BadPost w) := by
  go_enter Try.func17, Try.ntmps17
  go_wp2_with (fail)
  have q4 := (((Holds.new (w.alloc (.cells #[.int .i64 most] 3)) 24 #[.slice none 0 0]).alloc (.cells #[.slice none 0 0] 46)).alloc (.cells #[.int .i64 1] 28))
  have q5 := ((Holds.new ((w.alloc (.cells #[.int .i64 most] 3)).alloc (.cells #[.slice none 0 0] 24)) 46 #[.slice none 0 0]).alloc (.cells #[.int .i64 1] 28))
  have q6 := (Holds.new (((w.alloc (.cells #[.int .i64 most] 3)).alloc (.cells #[.slice none 0 0] 24)).alloc (.cells #[.slice none 0 0] 46)) 28 #[.int .i64 1])
  simp only [World.size_alloc] at q4 q5 q6
  exact bodyPost_ret (bad_end q4 q5 q6 rfl rfl rfl) rfl ⟨rfl, ((((Below.refl _ w).alloc (Nat.le_refl _) _).alloc (by simp) _).alloc (by simp; omega) _).alloc (by simp; omega) _⟩
set_option maxHeartbeats 4000000 in
set_option maxRecDepth 100000 in
theorem exploreLow {w : World} {most : Int} {tid : TypeId} {dyn : Value} (h : most < 1) : Calls Try.prog 17 #[.iface tid dyn, .int .i64 most] w (BadPost w) := by
  have d1 : decide (most < 1) = true := decide_eq_true h
  go_enter Try.func17, Try.ntmps17
  go_wp2_with (fail)
  have q4 := (((Holds.new (w.alloc (.cells #[.int .i64 most] 3)) 24 #[.slice none 0 0]).alloc (.cells #[.slice none 0 0] 46)).alloc (.cells #[.int .i64 1] 28))
  have q5 := ((Holds.new ((w.alloc (.cells #[.int .i64 most] 3)).alloc (.cells #[.slice none 0 0] 24)) 46 #[.slice none 0 0]).alloc (.cells #[.int .i64 1] 28))
  have q6 := (Holds.new (((w.alloc (.cells #[.int .i64 most] 3)).alloc (.cells #[.slice none 0 0] 24)).alloc (.cells #[.slice none 0 0] 46)) 28 #[.int .i64 1])
  simp only [World.size_alloc] at q4 q5 q6
  exact bodyPost_ret (bad_end q4 q5 q6 rfl rfl rfl) rfl ⟨rfl, ((((Below.refl _ w).alloc (Nat.le_refl _) _).alloc (by simp) _).alloc (by simp; omega) _).alloc (by simp; omega) _⟩
set_option maxHeartbeats 4000000 in
set_option maxRecDepth 100000 in
theorem exploreHigh {w : World} {most : Int} {tid : TypeId} {dyn : Value} (h : 20000 < most) : Calls Try.prog 17 #[.iface tid dyn, .int .i64 most] w (BadPost w) := by
  have d1 : decide (most < 1) = false := decide_eq_false (by omega)
  have d2 : decide (20000 < most) = true := decide_eq_true h
  go_enter Try.func17, Try.ntmps17
  go_wp2_with (fail)
  have q4 := (((Holds.new (w.alloc (.cells #[.int .i64 most] 3)) 24 #[.slice none 0 0]).alloc (.cells #[.slice none 0 0] 46)).alloc (.cells #[.int .i64 1] 28))
  have q5 := ((Holds.new ((w.alloc (.cells #[.int .i64 most] 3)).alloc (.cells #[.slice none 0 0] 24)) 46 #[.slice none 0 0]).alloc (.cells #[.int .i64 1] 28))
  have q6 := (Holds.new (((w.alloc (.cells #[.int .i64 most] 3)).alloc (.cells #[.slice none 0 0] 24)).alloc (.cells #[.slice none 0 0] 46)) 28 #[.int .i64 1])
  simp only [World.size_alloc] at q4 q5 q6
  exact bodyPost_ret (bad_end q4 q5 q6 rfl rfl rfl) rfl ⟨rfl, ((((Below.refl _ w).alloc (Nat.le_refl _) _).alloc (by simp) _).alloc (by simp; omega) _).alloc (by simp; omega) _⟩
set_option maxHeartbeats 4000000 in
set_option maxRecDepth 100000 in
theorem exploresG {I : Ifc} {S : Sys} {w : World} {most : Int} (hS : SysOk I S w) : Calls Try.prog 20 #[.iface I.tid I.dyn, .int .i64 most] w (Yes w) := by
  by_cases hlo : most < 1
  · have d1 : decide (most < 1) = true := decide_eq_true hlo
    go_enter Try.func20, Try.ntmps20
    go_wp2_with (fail)
    refine (exploreLow hlo).mono ?_
    rintro e w1 ⟨rfl, hb1⟩
    have HB1 : Hid (Below w.heap.size w (w1.alloc (.cells #[.slice none 0 0] 24))) := hb1.trans ((Below.refl _ w1).alloc hb1.size _)
    clear hb1 hlo
    go_wp2
    go_ret
    exact ⟨rfl, HB1.out⟩
  · by_cases hhi : 20000 < most
    · have d1 : decide (most < 1) = false := decide_eq_false hlo
      have d2 : decide (20000 < most) = true := decide_eq_true hhi
      go_enter Try.func20, Try.ntmps20
      go_wp2_with (fail)
      refine (exploreHigh hhi).mono ?_
      rintro e w1 ⟨rfl, hb1⟩
      have HB1 : Hid (Below w.heap.size w (w1.alloc (.cells #[.slice none 0 0] 24))) := hb1.trans ((Below.refl _ w1).alloc hb1.size _)
      clear hb1 hlo hhi
      go_wp2
      go_ret
      exact ⟨rfl, HB1.out⟩
    · obtain ⟨N, rfl⟩ : ∃ N : Nat, most = (N : Int) := ⟨most.toNat, by omega⟩
      have d1 : decide ((N : Int) < 1) = false := decide_eq_false hlo
      have d2 : decide ((20000 : Int) < (N : Int)) = false := decide_eq_false hhi
      have h1 : 1 ≤ N := by omega
      have h2 : N ≤ 20000 := by omega
      have HSS := Lib.hid hS
      have hF := fun (st : List ByteArray) (g : PNet) => exF_fit (most := N) (st := st) (g := g) hS.small h1 h2
      obtain ⟨res, hres⟩ : ∃ r, exF S N 20001 0 0 [S.beg] = r := ⟨_, rfl⟩
      rw [hres] at hF
      have HRES := Lib.hid hres
      have HF := Lib.hid hF
      clear hres hS hlo hhi hF
      go_enter Try.func20, Try.ntmps20
      go_wp2_with (fail)
      refine (exploreG HSS.out h1 h2).mono ?_
      rintro e w1 ⟨hb1, h⟩
      rw [HRES.out] at h
      cases res with
      | none =>
        subst h
        obtain ⟨w2, hw2⟩ : ∃ W, W = w1.alloc (.cells #[.slice none 0 0] 24) := ⟨_, rfl⟩
        have hb2 : Below w.heap.size w w2 := by rw [hw2]; exact hb1.trans ((Below.refl _ w1).alloc hb1.size _)
        have H5 : Hid (Holds w2 w1.heap.size 24 [.slice none 0 0]) := by rw [hw2]; exact Holds.new w1 24 #[.slice none 0 0]
        have HB2 := Lib.hid hb2
        go_wp2_with (fail)
        rw [← hw2]
        clear hw2 hb1 hb2
        refine (explG (HSS.out.at HB2.out) h1 h2).mono ?_
        rintro e w3 ⟨hb3, h⟩
        rw [HRES.out] at h
        subst h
        have h53 := (((H5.out.belowAll hb3)).alloc (.cells #[.slice none 0 0] 24)).cell 0
        simp only [List.getElem?_cons_zero] at h53
        have hb4 := HB2.out.trans (hb3.mono HB2.out.size)
        have HB4 : Hid (Below w.heap.size w (w3.alloc (.cells #[.slice none 0 0] 24))) := hb4.trans ((Below.refl _ w3).alloc hb4.size _)
        clear hb3 hb4
        go_wp2
        go_ret
        exact ⟨rfl, HB4.out⟩
      | some r =>
        obtain ⟨st, g⟩ := r
        obtain ⟨hsm, hgl, hsl⟩ := HF.out st g rfl
        have HSM := Lib.hid hsm
        obtain ⟨vn, vs, rfl, hvn, hvs⟩ := h
        obtain ⟨fn, hrn, hgn⟩ := hvn
        obtain ⟨an, cn, rfl, _, _, _⟩ := hrn.form
        obtain ⟨asl, cs, rfl, hcs, _, _⟩ := hvs.form
        have HVN := Lib.hid (show NetV (From w.heap.size) w1 (.slice an g.length cn) g from ⟨fn, hrn, hgn⟩)
        have HVS := Lib.hid hvs
        obtain ⟨w2, hw2⟩ : ∃ W, W = w1.alloc (.cells #[.slice an g.length cn] 24) := ⟨_, rfl⟩
        have hb12 : Below w1.heap.size w1 w2 := by rw [hw2]; exact ((Below.refl _ w1).alloc (Nat.le_refl _) _)
        have H5 : Hid (Holds w2 w1.heap.size 24 [.slice an g.length cn]) := by rw [hw2]; exact Holds.new w1 24 #[.slice an g.length cn]
        have HB12 := Lib.hid hb12
        have HB2 : Hid (Below w.heap.size w w2) := hb1.trans (hb12.mono hb1.size)
        clear hsm hgl hrn hgn hvs hb12 hb1 HF
        go_wp2_with (fail)
        rw [← hw2]
        clear hw2
        refine (explG (HSS.out.at HB2.out) h1 h2).mono ?_
        rintro e w3 ⟨hb3, h⟩
        rw [HRES.out] at h
        obtain ⟨vn2, vs2, rfl, hvn, hvs⟩ := h
        obtain ⟨fn2, hrn, hgn⟩ := hvn
        obtain ⟨an2, cn2, rfl, _, _, _⟩ := hrn.form
        obtain ⟨as2, cs2, rfl, hcs2, _, _⟩ := hvs.form
        obtain ⟨w4, hw4⟩ : ∃ W, W = w3.alloc (.cells #[.slice an2 g.length cn2] 24) := ⟨_, rfl⟩
        have hb34 : Below w3.heap.size w3 w4 := by rw [hw4]; exact ((Below.refl _ w3).alloc (Nat.le_refl _) _)
        have hb24 := hb3.trans (hb34.mono hb3.size)
        have hb14 := HB12.out.trans (hb24.mono HB12.out.size)
        have HVN1 := Lib.hid (HVN.out.up (Keep.below hb14))
        have HVS1 := Lib.hid (HVS.out.up (Keep.below hb14))
        have HVN2 := Lib.hid (show NetV (From w2.heap.size) w4 (.slice an2 g.length cn2) g from NetV.up (Keep.below hb34) ⟨fn2, hrn, hgn⟩)
        have HVS2 := Lib.hid (hvs.up (Keep.below hb34))
        have H54 := Lib.hid (H5.out.belowAll hb24)
        have H84 : Hid (Holds w4 w3.heap.size 24 [.slice an2 g.length cn2]) := by rw [hw4]; exact Holds.new w3 24 #[.slice an2 g.length cn2]
        have HB4 : Hid (Below w.heap.size w w4) := HB2.out.trans (hb24.mono HB2.out.size)
        obtain ⟨M, hM⟩ : ∃ M, st.length = M := ⟨_, rfl⟩
        have HM := Lib.hid hM
        rw [hM] at hsl hcs hcs2
        clear hrn hgn hvs hb34 hb24 hb14 hb3 HVN HVS H5 HB12 HB2 hM
        rw [HM.out]
        go_wp2_with (fail)
        rw [← hw4]
        clear hw4
        generalize w3.heap.size = b8 at *
        generalize w1.heap.size = b5 at *
        go_loopw [11] (fun x wr => ∃ i : Nat, x = .int .i64 (i : Int) ∧ i ≤ M ∧ Hid (Below w4.heap.size w4 wr)) (fun x _ => M - (intOf x).toNat)
        case atStart => exact ⟨0, rfl, Nat.zero_le _, Below.refl _ _⟩
        case round =>
          obtain ⟨i, hx, hi, HBL⟩ := hrel
          subst hx
          by_cases hin : i < M
          · have hi2i : (i : Int) < (M : Int) := by omega
            have hi0i : (0 : Int) ≤ (i : Int) := by omega
            have hwii : IntKind.i64.wrap (i : Int) = (i : Int) := by rw [IntKind.wrap_i64]; omega
            have hwji : IntKind.i64.wrap ((i : Int) + 1) = (i : Int) + 1 := by rw [IntKind.wrap_i64]; omega
            have hil : i < st.length := by rw [HM.out]; exact hin
            obtain ⟨gb, ob, cb, x, he1, hx1, hc1⟩ := (HVS1.out.up (Keep.below HBL.out)).at1 hil
            obtain ⟨gb', ob', cb', x', he2, hx2, hc2⟩ := (HVS2.out.up (Keep.below HBL.out)).at1 hil
            rw [hx1] at hx2
            injection hx2 with hx2
            subst hx2
            rw [List.getElem?_map, List.getElem?_eq_getElem hil] at hx1
            injection hx1 with hx1
            subst hx1
            injection he1 with he1 _ he1'
            subst he1 he1'
            injection he2 with he2 _ he2'
            subst he2 he2'
            obtain ⟨k, hk⟩ : ∃ k, st[i] = k := ⟨_, rfl⟩
            rw [hk] at hc1 hc2
            dsimp only at hc1 hc2
            go_wp2_with (fail)
            go_quiet (fail)
            have HB2 : Hid (Below w4.heap.size w4 (wr.drewN nq)) := ((Fr.of_below HBL.out (fun _ => False)).drewN nq).to_below (Nat.le_refl _) fun _ _ h => h
            clear hc1 hc2 HBL
            go_wp2
            refine ⟨⟨i + 1, by simp, by omega, HB2⟩, ?_⟩
            simp [intOf]
            omega
          · obtain rfl : i = M := by omega
            have h5 := (H54.out.belowAll HBL.out).cell 0
            have h8 := (H84.out.belowAll HBL.out).cell 0
            simp only [List.getElem?_cons_zero] at h5 h8
            have HN1 := Lib.hid (HVN1.out.up (Keep.below HBL.out))
            have HN2 := Lib.hid (HVN2.out.up (Keep.below HBL.out))
            go_wp2_with (fail)
            refine (netsFn HN1.out HN2.out HSM.out).mono ?_
            rintro e w7 ⟨rfl, hb7⟩
            have HB7 : Hid (Below w.heap.size w w7) := (HB4.out.trans (HBL.out.mono HB4.out.size)).trans (hb7.mono (HB4.out.trans (HBL.out.mono HB4.out.size)).size)
            clear hb7
            go_wp2
            go_ret
            exact ⟨rfl, HB7.out⟩
end Go.Proofs.Ytcedenoicmpjmaa.G
