/- The walk of chapter 17's known. -/
import Derived.Test.YtcopoaaofjeklaaAch
import Derived.Test.YtcopoaaofjeklaaAtw
namespace Go.Proofs.Ytcopoaaofjeklaa.G
open Go.RowKit Go.Maps
set_option linter.unusedVariables false
set_option linter.unusedSimpArgs false

def viewC (r : List PMove × Bool) : List Int × Bool := (r.1.map (·.proc), r.2)
theorem view0 : viewC (chooseP (tstat twoT) (tstat twoT).sys.beg 0) = ([0], true) := by decide +kernel
theorem view1 : viewC (chooseP (tstat twoT) (tstat twoT).sys.beg 1) = ([1], true) := by decide +kernel
theorem view3 : viewC (chooseP (tstat twoT) (tstat twoT).sys.beg 3) = ([0, 1], false) := by decide +kernel
theorem good_two : GoodT twoT := by
  refine ⟨by decide, by decide, ?_, ?_⟩
  · intro p hp
    simp [twoT] at hp
    rcases hp with rfl | rfl <;> decide
  · intro p hp
    simp [twoT] at hp
    rcases hp with rfl | rfl
    · refine ⟨by decide, by decide, by decide, fun x hx a ha => ?_⟩
      simp [oneN] at hx
      rcases hx with rfl | rfl
      · simp at ha
        subst ha
        exact ⟨by decide, by decide, by decide, by decide⟩
      · cases ha
    · refine ⟨by decide, by decide, by decide, fun x hx a ha => ?_⟩
      simp [oneN] at hx
      rcases hx with rfl | rfl
      · simp at ha
        subst ha
        exact ⟨by decide, by decide, by decide, by decide⟩
      · cases ha
theorem small_two : SmallT twoT := by
  refine ⟨by decide, by decide, by decide, ?_, ?_⟩
  · intro p hp
    simp [twoT] at hp
    rcases hp with rfl | rfl <;> decide
  · intro p hp x hx
    simp [twoT] at hp
    rcases hp with rfl | rfl
    · simp [oneN] at hx
      rcases hx with rfl | rfl <;> decide
    · simp [oneN] at hx
      rcases hx with rfl | rfl <;> decide
theorem MvsV.head {P : Nat → Prop} {w : World} {v : Value} {l : List PMove} {n : Nat} (h : MvsV P w v l) (hn : l.length = n) (h0 : 0 < n) {x : Int} (hx : (l.map (·.proc))[0]? = some x) : ∃ g o c, v = .slice (some ⟨g, o, none⟩) n c ∧ w.cell? ⟨g, o, none⟩ = some (.int .i64 x) := by
  obtain ⟨f, hr, hg⟩ := h
  subst hn
  obtain ⟨g, o, c, cs, he, hG, hrr⟩ := hr.atN oneMv hg h0
  obtain ⟨vr, vw, rfl, _, _⟩ := hG
  refine ⟨g, o, c, he, ?_⟩
  have h1 := hrr 0 (.int .i64 l[0].proc) rfl
  simp only [Nat.zero_mul, Nat.add_zero] at h1
  rw [List.getElem?_map, List.getElem?_eq_getElem h0] at hx
  injection hx with hx
  rw [h1, ← hx]
theorem MvsV.lens {P : Nat → Prop} {w : World} {v : Value} {l : List PMove} {n : Nat} (h : MvsV P w v l) (hn : l.length = n) : ∃ a c, v = .slice a n c ∧ n ≤ c := by
  obtain ⟨f, hr, _⟩ := h
  subst hn
  obtain ⟨a, c, he, hc, _⟩ := hr.form
  exact ⟨a, c, he, hc⟩
set_option maxHeartbeats 2000000 in
set_option maxRecDepth 100000 in
theorem knownFn (w : World) : Calls Try.prog 5 #[] w (Yes w) := by
  go_enter Try.func5, Try.ntmps5
  go_wp2_with (fail)
  refine (two17Fn w).mono ?_
  rintro e w1 ⟨hb1, vi, vp, vq, rfl, hv⟩
  have HB1 := Lib.hid hb1
  have HV := Lib.hid hv
  clear hb1 hv
  go_wp2_with (fail)
  refine (ofTFn HV.out small_two).mono ?_
  rintro e w2 ⟨hb2, h⟩
  rcases h with ⟨ui, up, uq, rfl, hok, hv⟩ | ⟨_, hno⟩
  · have HB2 : Hid (Below w.heap.size w w2) := HB1.out.trans (hb2.mono HB1.out.size)
    have hst := threads_stat hv hok
    have HST := Lib.hid hst
    have q1 := tmBegin ui up uq
    have q2 := (Go.Proofs.enters_of (P := Try.prog) Try.func48 (by kernel_rfl) rfl)
    have V0 := view0
    have V1 := view1
    have V3 := view3
    obtain ⟨T, hT⟩ : ∃ T, tstat twoT = T := ⟨_, rfl⟩
    rw [hT] at hst HST V0 V1 V3
    clear hT
    have HSM : Hid (T.sys.beg.size ≤ 1048576) := hst.sys.small.beg
    have HBG : Hid (∀ w', Below w2.heap.size w2 w' → Calls Try.prog 48 #[.agg #[ui, up, uq]] w' (fun e w'' => e = .returned (.string T.sys.beg) ∧ Below w'.heap.size w' w'')) := hst.sys.beg
    obtain ⟨s0, hs0⟩ : ∃ s, T.sys.beg = s := ⟨_, rfl⟩
    rw [hs0] at HBG HSM V0 V1 V3
    have HCH : Hid (∀ (vis : Nat) (z : Int) w', (vis : Int) = z → vis < 18446744073709551616 → Below w2.heap.size w2 w' → Calls Try.prog 10 #[.iface 66 (.agg #[ui, up, uq]), .string s0, .int .u64 z, .nilFunc] w' (ChPost (chooseP (T) s0 vis) w')) := fun vis z w' hz hv hb => by subst hz; exact chooseFn (I := tifc ui up uq) (J := tifs) (T := T) (HST.out.at hb) HSM.out hv
    have HC0 : Hid (∀ w', Below w2.heap.size w2 w' → Calls Try.prog 10 #[.iface 66 (.agg #[ui, up, uq]), .string s0, .int .u64 0, .nilFunc] w' (ChPost (chooseP (T) s0 0) w')) := fun w' hb => HCH.out 0 0 w' rfl (by omega) hb
    have HC1 : Hid (∀ w', Below w2.heap.size w2 w' → Calls Try.prog 10 #[.iface 66 (.agg #[ui, up, uq]), .string s0, .int .u64 1, .nilFunc] w' (ChPost (chooseP (T) s0 1) w')) := fun w' hb => HCH.out 1 1 w' rfl (by omega) hb
    have HC3 : Hid (∀ w', Below w2.heap.size w2 w' → Calls Try.prog 10 #[.iface 66 (.agg #[ui, up, uq]), .string s0, .int .u64 3, .nilFunc] w' (ChPost (chooseP (T) s0 3) w')) := fun w' hb => HCH.out 3 3 w' rfl (by omega) hb
    obtain ⟨⟨l0, b0⟩, hr0⟩ : ∃ r, chooseP (T) s0 0 = r := ⟨_, rfl⟩
    obtain ⟨⟨l1, b1⟩, hr1⟩ : ∃ r, chooseP (T) s0 1 = r := ⟨_, rfl⟩
    obtain ⟨⟨l3, b3⟩, hr3⟩ : ∃ r, chooseP (T) s0 3 = r := ⟨_, rfl⟩
    rw [hr0] at HC0 V0
    rw [hr1] at HC1 V1
    rw [hr3] at HC3 V3
    injection V0 with V0 W0
    injection V1 with V1 W1
    injection V3 with V3 W3
    dsimp only at V0 W0 V1 W1 V3 W3
    subst W0 W1 W3
    have N0 : l0.length = 1 := by have := congrArg List.length V0; simpa using this
    have N1 : l1.length = 1 := by have := congrArg List.length V1; simpa using this
    have N3 : l3.length = 2 := by have := congrArg List.length V3; simpa using this
    have HN := Lib.hid (And.intro N0 (And.intro N1 N3))
    have HVV := Lib.hid (And.intro V0 (And.intro V1 V3))
    clear hb2 hv hst hs0 hr0 hr1 hr3 HCH hok HV N0 N1 N3 V0 V1 V3 HSM HST
    go_wp2_with (fail)
    refine (HBG.out w2 (Below.refl _ _)).mono ?_
    rintro e w3 ⟨rfl, hb3⟩
    have HB3 := Lib.hid hb3
    clear hb3
    go_wp2_with (fail)
    refine (HC0.out w3 HB3.out).mono ?_
    rintro e w4 ⟨hb4, va, rfl, hva⟩
    have HB4 : Hid (Below w2.heap.size w2 w4) := HB3.out.trans (hb4.mono HB3.out.size)
    have HVA := Lib.hid hva
    obtain ⟨ga, oa, ca, rfl, _⟩ := hva.head HN.out.1 (by omega) (x := 0) (by rw [HVV.out.1]; rfl)
    clear hb4 hva HB3
    go_wp2_with (fail)
    refine (HBG.out w4 HB4.out).mono ?_
    rintro e w5 ⟨rfl, hb5⟩
    have HB5 : Hid (Below w2.heap.size w2 w5) := HB4.out.trans (hb5.mono HB4.out.size)
    have HVA5 := Lib.hid (HVA.out.up (Keep.below hb5))
    clear hb5 HVA HB4
    go_wp2_with (fail)
    refine (HC1.out w5 HB5.out).mono ?_
    rintro e w6 ⟨hb6, vb, rfl, hvb⟩
    have HB6 : Hid (Below w2.heap.size w2 w6) := HB5.out.trans (hb6.mono HB5.out.size)
    have HVA6 := Lib.hid (HVA5.out.up (Keep.below hb6))
    have HVB := Lib.hid hvb
    obtain ⟨gb, ob, cb, rfl, _⟩ := hvb.head HN.out.2.1 (by omega) (x := 1) (by rw [HVV.out.2.1]; rfl)
    clear hb6 hvb HB5 HVA5
    go_wp2_with (fail)
    refine (HBG.out w6 HB6.out).mono ?_
    rintro e w7 ⟨rfl, hb7⟩
    have HB7 : Hid (Below w2.heap.size w2 w7) := HB6.out.trans (hb7.mono HB6.out.size)
    have HVA7 := Lib.hid (HVA6.out.up (Keep.below hb7))
    have HVB7 := Lib.hid (HVB.out.up (Keep.below hb7))
    clear hb7 HB6 HVA6 HVB
    go_wp2_with (fail)
    refine (HC3.out w7 HB7.out).mono ?_
    rintro e w8 ⟨hb8, vc, rfl, hvc⟩
    obtain ⟨ac, cc, rfl, hcc⟩ := hvc.lens HN.out.2.2
    have hva8 := HVA7.out.up (Keep.below hb8)
    have hvb8 := HVB7.out.up (Keep.below hb8)
    obtain ⟨_, _, _, he, x0⟩ := hva8.head HN.out.1 (by omega) (x := 0) (by rw [HVV.out.1]; rfl)
    injection he with he _ he3
    injection he with he
    injection he with he1 he2
    subst he1 he2 he3
    obtain ⟨_, _, _, he, x1⟩ := hvb8.head HN.out.2.1 (by omega) (x := 1) (by rw [HVV.out.2.1]; rfl)
    injection he with he _ he3
    injection he with he
    injection he with he1 he2
    subst he1 he2 he3
    have HBZ : Hid (Below w.heap.size w w8) := HB2.out.trans ((HB7.out.trans (hb8.mono HB7.out.size)).mono HB2.out.size)
    clear hb8 hva8 hvb8 HVA7 HVB7 HC0 HC1 HC3 HBG hvc HB7
    go_wp2
    go_ret
    exact ⟨rfl, HBZ.out⟩
  · exact absurd good_two hno
end Go.Proofs.Ytcopoaaofjeklaa.G
