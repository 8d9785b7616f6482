/- The walk of general.Accepts. -/
import Derived.Test.YtelanndleinabaaDoorLook
import Derived.Test.YtelanndleinabaaDoorCatI
namespace Go.Proofs.YtelanndleinabaaDoor
open Go.RowKit
set_option linter.unusedVariables false

/-- Accepts an automaton a word? -/
def accP (g : Gen) (l : Las) : Prop := ∃ s ∈ g.init, ∃ y, Rch (stepsOf g l) s.toNat y ∧ goodP (stepsOf g l) (2 ^ g.sets.toNat - 1) y
/-- What Accepts answers. -/
def AccPost (c : Nat) (g : Gen) (l : Las) (b : Bool) : Prop := b = true ↔ c = 0 ∧ accP g l
def AccOut (c : Nat) (g : Gen) (l : Las) (w : World) (e : Ending) (w' : World) : Prop := ∃ b, e = .returned (.tuple #[.bool b, .int .i64 (c : Int)]) ∧ AccPost c g l b ∧ Below w.heap.size w w'
def accCode (g : Gen) (l : Las) : Nat := if genOk g then lasCode l else 120

theorem genOk_parts {g : Gen} (h : genOk g = true) : (0 ≤ g.sets ∧ g.sets ≤ 60 ∧ g.states.length ≤ 4096 ∧ g.init.length ≤ 4096) ∧ (∀ x ∈ g.init, 0 ≤ x ∧ x < (g.states.length : Int)) ∧ (∀ ms ∈ g.states, ms.length ≤ 131072 ∧ ∀ m ∈ ms, 0 ≤ m.to ∧ m.to < (g.states.length : Int)) := by
  unfold genOk at h
  simp only [Bool.and_eq_true, decide_eq_true_eq] at h
  obtain ⟨⟨⟨h1, h2⟩, h3⟩, h4⟩ := h
  refine ⟨h1, ?_, ?_⟩
  · intro x hx
    have := List.all_eq_true.1 h2 x hx
    unfold inR at this
    simpa using this
  · intro ms hms
    refine ⟨?_, fun m hm => ?_⟩
    · obtain ⟨a, b, hab⟩ := List.append_of_mem hms
      rw [hab] at h4
      simp at h4
      omega
    · have := List.all_eq_true.1 (List.all_eq_true.1 h3 ms hms) m hm
      unfold mvOk inR at this
      simp at this
      exact this.1.2
theorem fit2_of {g : Gen} {l : Las} (h : genOk g = true) (hl : lasCode l = 0) (hn : 0 < g.states.length) (hw : ∀ ms ∈ g.states, ∀ m ∈ ms, m.sets < 18446744073709551616) : Fit2 g l ((l.pre.length + l.loop.length) * g.states.length) := by
  obtain ⟨h1, h2, h3⟩ := genOk_parts h
  unfold lasCode at hl
  have hl' : ¬ (l.loop.length < 1 ∨ 4096 < l.pre.length + l.loop.length) := by
    intro hc; rw [if_pos hc] at hl; omega
  exact ⟨hn, h1.2.2.1, by omega, by omega, rfl, h3, hw⟩

/-- The search's memory at the beginning. -/
theorem tm_new (W : World) (m : Nat) (hm : W.heap.size = m) (N S bn bw bl bg : Nat) :
    TM m (m + 1 + 1 + 1) m (m + 1) (m + 1 + 1) N S (stepsV bn bw bl bg) (.slice none 0 0) ((((W.alloc (.map #[] 0)).alloc (.map #[] 0)).alloc (.map #[] 0)).alloc (.cells #[stepsV bn bw bl bg, .int .u64 (S : Int), .map (some m), .map (some (m + 1)), .map (some (m + 1 + 1)), .slice none 0 0] 73)) ⟨fun _ => none, fun _ => 0, [], 0⟩ ∧
      Below m W ((((W.alloc (.map #[] 0)).alloc (.map #[] 0)).alloc (.map #[] 0)).alloc (.cells #[stepsV bn bw bl bg, .int .u64 (S : Int), .map (some m), .map (some (m + 1)), .map (some (m + 1 + 1)), .slice none 0 0] 73)) := by
  subst hm
  have e1 : (W.alloc (.map #[] 0)).heap.size = W.heap.size + 1 := by simp
  have e2 : ((W.alloc (.map #[] 0)).alloc (.map #[] 0)).heap.size = W.heap.size + 1 + 1 := by simp
  have e3 : (((W.alloc (.map #[] 0)).alloc (.map #[] 0)).alloc (.map #[] 0)).heap.size = W.heap.size + 1 + 1 + 1 := by simp
  have i1 := IMap.new W N
  have i2 := IMap.new (W.alloc (.map #[] 0)) N
  have i3 := BMap.new ((W.alloc (.map #[] 0)).alloc (.map #[] 0)) N
  rw [e1] at i2
  rw [e2] at i3
  have b1 : Below W.heap.size W (W.alloc (.map #[] 0)) := (Below.refl _ _).alloc (Nat.le_refl _) _
  have k1 : ∀ (o : Obj) (X : World) (f : Nat → Option Nat) (b : Nat), IMap X b N f → IMap (X.alloc o) b N f := fun o X f b h => h.of_eq (Below.heap_alloc _ _ _ h.lt)
  have k2 : ∀ (o : Obj) (X : World) (f : Nat → Option Unit) (b : Nat), BMap X b N f → BMap (X.alloc o) b N f := fun o X f b h => h.of_eq (Below.heap_alloc _ _ _ h.lt)
  have hh := Holds.new (((W.alloc (.map #[] 0)).alloc (.map #[] 0)).alloc (.map #[] 0)) 73 #[stepsV bn bw bl bg, .int .u64 (S : Int), .map (some W.heap.size), .map (some (W.heap.size + 1)), .map (some (W.heap.size + 1 + 1)), .slice none 0 0]
  rw [e3] at hh
  refine ⟨⟨⟨hh, ⟨by omega, by omega, by omega, by omega, by omega, by omega, by omega⟩, k1 _ _ _ _ (k1 _ _ _ _ (k1 _ _ _ _ i1)), ?_, ?_, ⟨rfl, .inl ⟨rfl, rfl⟩⟩⟩, ⟨(cntB_none N).symm, (fun x h => absurd rfl h), (fun x a h => by cases h), Nat.le_refl _, (fun x h => by cases h)⟩⟩, ?_⟩
  · have : lowF ⟨fun _ => none, fun _ => 0, [], 0⟩ = fun _ => none := by funext y; rfl
    rw [this]
    exact k1 _ _ _ _ (k1 _ _ _ _ i2)
  · have : onF ⟨fun _ => none, fun _ => 0, [], 0⟩ = fun _ => none := by funext y; simp [onF]
    rw [this]
    exact k2 _ _ _ _ i3
  · exact (((b1.alloc (by omega) _).alloc (by omega) _).alloc (by omega) _)

set_option maxHeartbeats 4000000 in
set_option maxRecDepth 100000 in
theorem genAccepts (g : Gen) (l : Las) (vg vl : Value) (w : World) (hg : GenAt w.heap.size w vg g) (hl : LasAt w.heap.size w vl l) (hb : (g.states.map List.length).sum ≤ 4000000) (hb2 : l.pre.length + l.loop.length ≤ 4000000) :
    Calls Tryd.prog 14 #[vg, vl] w fun e w' => AccOut (accCode g l) g l w e w' := by
  obtain ⟨va, vb, rfl, hs, ha, hbb⟩ := hg
  obtain ⟨a1, cap1, rfl, hc1, hm1⟩ := ha.form
  obtain ⟨a2, cap2, rfl, hc2, hm2⟩ := hbb.form
  obtain ⟨vp, vq, rfl, hp, hq⟩ := hl
  obtain ⟨a3, cap3, rfl, hc3, hm3⟩ := hp.form
  obtain ⟨a4, cap4, rfl, hc4, hm4⟩ := hq.form
  obtain ⟨n, hn⟩ : ∃ n, g.states.length = n := ⟨_, rfl⟩
  obtain ⟨q, hqn⟩ : ∃ q, g.init.length = q := ⟨_, rfl⟩
  obtain ⟨p1, hp1⟩ : ∃ p1, l.pre.length = p1 := ⟨_, rfl⟩
  obtain ⟨p2, hp2⟩ : ∃ p2, l.loop.length = p2 := ⟨_, rfl⟩
  rw [hn] at hc2
  rw [hqn] at hc1
  rw [hp1] at hc3
  rw [hp2] at hc4
  rw [hn, hqn, hp1, hp2]
  have HGA : Hid (GenAt w.heap.size w (.agg #[.int .i64 g.sets, .slice a1 q cap1, .slice a2 n cap2]) g) := ⟨_, _, rfl, hs, by rw [← hqn]; exact ha, by rw [← hn]; exact hbb⟩
  have HLA : Hid (LasAt w.heap.size w (.agg #[.slice a3 p1 cap3, .slice a4 p2 cap4]) l) := ⟨_, _, rfl, by rw [← hp1]; exact hp, by rw [← hp2]; exact hq⟩
  have HN := Lib.hid hn
  have HQ := Lib.hid hqn
  have HP1 := Lib.hid hp1
  have HP2 := Lib.hid hp2
  have HB := Lib.hid hb
  have HB2 := Lib.hid hb2
  clear ha hbb hp hq hn hqn hp1 hp2 hb hb2
  have hBa : Below w.heap.size w (w.alloc (.cells #[.int .i64 g.sets, .slice a1 q cap1, .slice a2 n cap2] 25)) := (Below.refl _ _).alloc (Nat.le_refl _) _
  have hBb : Below w.heap.size w ((w.alloc (.cells #[.int .i64 g.sets, .slice a1 q cap1, .slice a2 n cap2] 25)).alloc (.cells #[.slice a3 p1 cap3, .slice a4 p2 cap4] 28)) := hBa.alloc (by simp) _
  have hGh := (Holds.new w 25 #[.int .i64 g.sets, .slice a1 q cap1, .slice a2 n cap2]).alloc (.cells #[.slice a3 p1 cap3, .slice a4 p2 cap4] 28)
  have hWh := Holds.new (w.alloc (.cells #[.int .i64 g.sets, .slice a1 q cap1, .slice a2 n cap2] 25)) 28 #[.slice a3 p1 cap3, .slice a4 p2 cap4]
  have hsz0 : w.heap.size + 2 ≤ ((w.alloc (.cells #[.int .i64 g.sets, .slice a1 q cap1, .slice a2 n cap2] 25)).alloc (.cells #[.slice a3 p1 cap3, .slice a4 p2 cap4] 28)).heap.size := by simp
  have hszA : (w.alloc (.cells #[.int .i64 g.sets, .slice a1 q cap1, .slice a2 n cap2] 25)).heap.size = w.heap.size + 1 := by simp
  rw [hszA] at hWh
  by_cases hok : genOk g = true
  · have HCG := genCheck g (.agg #[.int .i64 g.sets, .slice a1 q cap1, .slice a2 n cap2]) _ ((HGA.out.below hBb).mono hBb.size) HB.out
    have hcode0 : genCode g = 0 := by unfold genCode; rw [if_pos hok]
    rw [hcode0] at HCG
    have HCG := Lib.hid HCG
    by_cases hlok : lasCode l = 0
    · have hacc : accCode g l = 0 := by unfold accCode; rw [if_pos hok]; exact hlok
      rw [hacc]
      have HOK := Lib.hid hok
      have HLOK := Lib.hid hlok
      clear hok hlok hacc hcode0
      go_enter Tryd.func14, Tryd.ntmps14
      go_wp2_with (fail)
      generalize ((w.alloc (.cells #[.int .i64 g.sets, .slice a1 q cap1, .slice a2 n cap2] 25)).alloc (.cells #[.slice a3 p1 cap3, .slice a4 p2 cap4] 28)) = W0 at *
      refine (HCG.out).mono ?_
      rintro e W1 ⟨rfl, hb1⟩
      have hBc := hBb.trans (hb1.mono hBb.size)
      have hG1 := hGh.belowAll hb1
      have hW1 := hWh.belowAll hb1
      have hs1 := Nat.le_trans hsz0 hb1.size
      have HLC := Lib.hid (lassoCheck l (.agg #[.slice a3 p1 cap3, .slice a4 p2 cap4]) W1 ((HLA.out.below hBc).mono hBc.size) HB2.out)
      rw [HLOK.out] at HLC
      have y0 := hW1.cell 0
      have y1 := hW1.cell 1
      simp at y0 y1
      clear hBb hGh hWh hsz0 hb1 hBa
      go_wp2_with (fail)
      refine (HLC.out).mono ?_
      rintro e W2 ⟨rfl, hb2⟩
      have hBd := hBc.trans (hb2.mono hBc.size)
      have hG2 := hG1.belowAll hb2
      have hW2 := hW1.belowAll hb2
      have hs2 := Nat.le_trans hs1 hb2.size
      clear hBc hG1 hW1 hs1 hb2 y0 y1
      have y0 := hW2.cell 0
      have y1 := hW2.cell 1
      simp at y0 y1
      have hlas : 0 < p2 ∧ p1 + p2 ≤ 4096 := by
        have h := HLOK.out
        unfold lasCode at h
        have h' : ¬ (l.loop.length < 1 ∨ 4096 < l.pre.length + l.loop.length) := by
          intro hc; rw [if_pos hc] at h; omega
        rw [HP1.out, HP2.out] at h'
        omega
      have hWc := Holds.new W2 26 #[.slice a3 p1 cap3, .slice a4 p2 cap4]
      have hBe := hBd.alloc hBd.size (.cells #[.slice a3 p1 cap3, .slice a4 p2 cap4] 26)
      have hG3 := hG2.alloc (.cells #[.slice a3 p1 cap3, .slice a4 p2 cap4] 26)
      have hW3 := hW2.alloc (.cells #[.slice a3 p1 cap3, .slice a4 p2 cap4] 26)
      have hs3 : w.heap.size + 2 ≤ (W2.alloc (.cells #[.slice a3 p1 cap3, .slice a4 p2 cap4] 26)).heap.size := by simp; omega
      have hc0 := hWc.cell 0
      have hc1 := hWc.cell 1
      have hltc := hWc.lt
      simp only [List.getElem?_cons_zero, List.getElem?_cons_succ] at hc0 hc1
      have HCC : Hid (∀ W, W = (W2.alloc (.cells #[.slice a3 p1 cap3, .slice a4 p2 cap4] 26)) → Calls Tryd.prog 25 #[.slice (some ⟨W2.heap.size, 0, none⟩) 2 2] W fun e w' => ∃ v, e = .returned v ∧ w'.ownsRow W.heap.size 49 1 v (l.pre ++ l.loop).length (u64s (l.pre ++ l.loop)) ∧ Below W.heap.size W w') := by
        rintro W rfl
        obtain ⟨x1, x2, hx, r1, r2⟩ := HLA.out.below hBe
        injection hx with hx
        injection hx with hx
        injection hx with hx1 hx
        injection hx with hx2 _
        subst hx1 hx2
        refine concatU W2.heap.size _ _ l.pre l.loop _ hc0 hc1 hltc (r1.mono hBe.size) (r2.mono hBe.size) ?_ ?_
        · rw [HP1.out, HP2.out]; omega
        · rw [HP1.out, HP2.out]; omega
      clear hBd hG2 hW2 hs2 hWc hc0 hc1 hltc
      go_wp2_with (fail)
      refine (HCC.out _ rfl).mono ?_
      clear HCC y0 y1
      generalize W2.alloc (.cells #[.slice a3 p1 cap3, .slice a4 p2 cap4] 26) = W3 at *
      rintro e W4 ⟨vw, rfl, hown, hb4⟩
      have hBf := hBe.trans (hb4.mono hBe.size)
      have hG4 := hG3.belowAll hb4
      have hW4 := hW3.belowAll hb4
      have hs4 := Nat.le_trans hs3 hb4.size
      obtain ⟨aw, cw, rfl, hcw1, hcw2⟩ := owns_form hown
      obtain ⟨pw, hpw⟩ : ∃ pw, (l.pre ++ l.loop).length = pw := ⟨_, rfl⟩
      rw [hpw] at hown hcw1 ⊢
      have HPW := Lib.hid hpw
      have hRW := Row.of_owns hown
      clear hBe hG3 hW3 hs3 hb4 hpw hown
      have z2 := (hG4.alloc (.cells #[.slice aw pw cw] 26)).cell 2
      simp only [List.getElem?_cons_zero, List.getElem?_cons_succ] at z2
      have hBg := (hBf.alloc hBf.size (.cells #[.slice aw pw cw] 26)).alloc (by simp; have := hBf.size; omega) (.cells #[.int .i64 (n : Int)] 3)
      have hB45 : Below W4.heap.size W4 ((W4.alloc (.cells #[.slice aw pw cw] 26)).alloc (.cells #[.int .i64 (n : Int)] 3)) := ((Below.refl _ _).alloc (Nat.le_refl _) _).alloc (by simp) _
      have hE5 : SEnv ((W4.alloc (.cells #[.slice aw pw cw] 26)).alloc (.cells #[.int .i64 (n : Int)] 3)).heap.size ((W4.alloc (.cells #[.slice aw pw cw] 26)).alloc (.cells #[.int .i64 (n : Int)] 3)) (W4.heap.size + 1) W4.heap.size (w.heap.size + 1) w.heap.size g l := by
        have hN1 := Holds.new (W4.alloc (.cells #[.slice aw pw cw] 26)) 3 #[.int .i64 (n : Int)]
        have hN2 := (Holds.new W4 26 #[.slice aw pw cw]).alloc (.cells #[.int .i64 (n : Int)] 3)
        have hW5 := hW4.belowAll hB45
        have hG5 := hG4.belowAll hB45
        obtain ⟨x1, x2, hx, r0, r1, r2⟩ := HGA.out.below hBg
        injection hx with hx
        injection hx with hx
        injection hx with _ hx
        injection hx with hx1 hx
        injection hx with hx2 _
        obtain ⟨u1, u2, hu, t1, t2⟩ := HLA.out.below hBg
        injection hu with hu
        injection hu with hu
        injection hu with hu1 hu
        injection hu with hu2 _
        subst hx1 hx2 hu1 hu2
        have e1 : (W4.alloc (.cells #[.slice aw pw cw] 26)).heap.size = W4.heap.size + 1 := by simp
        refine ⟨⟨by simp, ?_⟩, ⟨by simp; omega, .slice aw pw cw, hN2.cell 0, ?_⟩, ⟨by simp; omega, .slice a3 p1 cap3, hW5.cell 0, ?_⟩, ⟨by simp; omega, .slice a2 n cap2, hG5.cell 2, ?_⟩⟩
        · rw [← e1, HN.out]; exact hN1.cell 0
        · refine ⟨?_, ?_⟩
          · rw [HPW.out]; exact (hRW.below hB45).mono hB45.size
          · intro y hy
            rcases List.mem_append.1 hy with h | h
            · exact t1.2 y h
            · exact t2.2 y h
        · exact t1.mono hBg.size
        · exact r2.mono hBg.size
      have hG5 := hG4.belowAll hB45
      have hs5 := Nat.le_trans hs4 hB45.size
      clear hBf hG4 hW4 hs4 hRW hB45
      by_cases hn0 : n = 0
      · have hn1 : ((n : Int) == 0) = true := by simp [hn0]
        have hno : ¬ accP g l := by
          rintro ⟨s, hs', _⟩
          have := (genOk_parts HOK.out).2.1 s hs'
          rw [HN.out, hn0] at this
          omega
        clear hn0
        go_wp2
        go_ret2
        exact ⟨false, rfl, ⟨(fun h => by cases h), (fun h => absurd h.2 hno)⟩, hBg⟩
      · have hn1 : ((n : Int) == 0) = false := by simp; exact hn0
        have hn2 : 0 < n := by omega
        clear hn0
        have hmm := @run_makeMap Tryd.prog
        obtain ⟨⟨g0, g1, g2, g3⟩, hin, _⟩ := genOk_parts HOK.out
        obtain ⟨T, hT⟩ : ∃ T : Nat, g.sets = (T : Int) := ⟨g.sets.toNat, by omega⟩
        have hT60 : T ≤ 60 := by omega
        have z0 := hG5.cell 0
        have z1 := hG5.cell 1
        simp only [List.getElem?_cons_zero, List.getElem?_cons_succ] at z0 z1
        rw [hT] at z0
        have hpow : (2 : Int) ^ T = ((2 ^ T : Nat) : Int) := by norm_cast
        have hpl : 2 ^ T < 18446744073709551616 := Nat.lt_of_le_of_lt (Nat.pow_le_pow_right (by omega) hT60) (by decide)
        have hp0 : 0 < 2 ^ T := Nat.two_pow_pos T
        have hShl : IntKind.u64.wrap ((2 : Int) ^ T) = ((2 ^ T : Nat) : Int) := by rw [hpow, IntKind.wrap_u64]; omega
        have hSub : IntKind.u64.wrap (((2 ^ T : Nat) : Int) - 1) = ((2 ^ T - 1 : Nat) : Int) := by rw [IntKind.wrap_u64]; omega
        obtain ⟨SV, hSV⟩ : ∃ SV, 2 ^ T - 1 = SV := ⟨_, rfl⟩
        obtain ⟨P2, hP2⟩ : ∃ P2, 2 ^ T = P2 := ⟨_, rfl⟩
        rw [hP2] at hShl hSub hSV
        rw [hSV] at hSub
        have HSV : Hid (2 ^ g.sets.toNat - 1 = SV) := by show _ = _; rw [hT]; show 2 ^ T - 1 = SV; rw [hP2, hSV]
        have hI1 := ((hG5.alloc (.map #[] 0)).alloc (.map #[] 0)).alloc (.map #[] 0)
        have hM1 := IMap.new ((W4.alloc (.cells #[.slice aw pw cw] 26)).alloc (.cells #[.int .i64 (n : Int)] 3)) ((l.pre.length + l.loop.length) * g.states.length)
        clear g0 g1 hin hpow hpl hp0 hSV hP2
        have e5 : ((W4.alloc (.cells #[.slice aw pw cw] 26)).alloc (.cells #[.int .i64 (n : Int)] 3)).heap.size = W4.heap.size + 1 + 1 := by simp
        rw [e5] at hE5
        have hTM : Hid (∀ W5, W5 = ((W4.alloc (.cells #[.slice aw pw cw] 26)).alloc (.cells #[.int .i64 (n : Int)] 3)) → TM (W4.heap.size + 1 + 1) (W4.heap.size + 1 + 1 + 1 + 1 + 1) (W4.heap.size + 1 + 1) (W4.heap.size + 1 + 1 + 1) (W4.heap.size + 1 + 1 + 1 + 1) ((l.pre.length + l.loop.length) * g.states.length) SV (stepsV (W4.heap.size + 1) W4.heap.size (w.heap.size + 1) w.heap.size) (.slice none 0 0)
            ((((W5.alloc (.map #[] 0)).alloc (.map #[] 0)).alloc (.map #[] 0)).alloc (.cells #[.func (.func 26) #[] #[.pointer (some ⟨W4.heap.size + 1, 0, none⟩), .pointer (some ⟨W4.heap.size, 0, none⟩), .pointer (some ⟨w.heap.size + 1, 0, none⟩), .pointer (some ⟨w.heap.size, 0, none⟩)], .int .u64 (SV : Int), .map (some (W4.heap.size + 1 + 1)), .map (some (W4.heap.size + 1 + 1 + 1)), .map (some (W4.heap.size + 1 + 1 + 1 + 1)), .slice none 0 0] 73)) ⟨fun _ => none, fun _ => 0, [], 0⟩ ∧
            Below (W4.heap.size + 1 + 1) W5 ((((W5.alloc (.map #[] 0)).alloc (.map #[] 0)).alloc (.map #[] 0)).alloc (.cells #[.func (.func 26) #[] #[.pointer (some ⟨W4.heap.size + 1, 0, none⟩), .pointer (some ⟨W4.heap.size, 0, none⟩), .pointer (some ⟨w.heap.size + 1, 0, none⟩), .pointer (some ⟨w.heap.size, 0, none⟩)], .int .u64 (SV : Int), .map (some (W4.heap.size + 1 + 1)), .map (some (W4.heap.size + 1 + 1 + 1)), .map (some (W4.heap.size + 1 + 1 + 1 + 1)), .slice none 0 0] 73))) := by
          intro W5 hW
          have hs : W5.heap.size = W4.heap.size + 1 + 1 := by rw [hW]; exact e5
          exact tm_new W5 _ hs ((l.pre.length + l.loop.length) * g.states.length) SV (W4.heap.size + 1) W4.heap.size (w.heap.size + 1) w.heap.size
        obtain ⟨hT9, hB9⟩ := hTM.out _ rfl
        have hG9 := hG5.below hB9 (by have := hs5; simp at this; omega)
        have z9 := hG9.cell 1
        simp only [List.getElem?_cons_zero, List.getElem?_cons_succ] at z9
        have hE9 := hE5.below hB9
        have hBh := hBg.trans (hB9.mono (by have := hs5; simp at this; omega))
        have hβ9 : w.heap.size ≤ W4.heap.size + 1 + 1 := by have := hs5; simp at this; omega
        clear hTM hI1 hM1 e5 hG5 hs5 hBg hE5 hB9 hs g2 g3 z1
        go_wp2
        clear z0 z2
        have hRG := hE9
        generalize ((((((W4.alloc (.cells #[.slice aw pw cw] 26)).alloc (.cells #[.int .i64 (n : Int)] 3)).alloc (.map #[] 0)).alloc (.map #[] 0)).alloc (.map #[] 0)).alloc (.cells #[.func (.func 26) #[] #[.pointer (some ⟨W4.heap.size + 1, 0, none⟩), .pointer (some ⟨W4.heap.size, 0, none⟩), .pointer (some ⟨w.heap.size + 1, 0, none⟩), .pointer (some ⟨w.heap.size, 0, none⟩)], .int .u64 (SV : Int), .map (some (W4.heap.size + 1 + 1)), .map (some (W4.heap.size + 1 + 1 + 1)), .map (some (W4.heap.size + 1 + 1 + 1 + 1)), .slice none 0 0] 73)) = W9 at *
        clear hRG hG9 z9
        have hGI := HGA.out
        obtain ⟨x1, x2, hxx, r0, r1, r2⟩ := hGI
        injection hxx with hxx
        injection hxx with hxx
        injection hxx with _ hxx
        injection hxx with hx1 hxx
        injection hxx with hx2 _
        subst hx1 hx2
        have HF : Hid (Fit2 g l ((l.pre.length + l.loop.length) * g.states.length)) := fit2_of HOK.out HLOK.out (by rw [HN.out]; exact hn2) (fun ms hms m hm => by
          obtain ⟨hs', hr1, hr2⟩ := r2
          obtain ⟨i, hi, rfl⟩ := List.getElem_of_mem hms
          obtain ⟨u, _, hu⟩ := hr2 i hi
          exact (hu.2 m hm).2.2.2)
        have hNS := HF.out.small
        have hnN : n ≤ (l.pre.length + l.loop.length) * g.states.length := by
          rw [HN.out, HP1.out, HP2.out]
          have : 1 * n ≤ (p1 + p2) * n := Nat.mul_le_mul_right n (by omega)
          omega
        have HI1 := Lib.hid r1
        have hin := Lib.hid (genOk_parts HOK.out).2.1
        generalize (l.pre.length + l.loop.length) * g.states.length = N at *
        have hNN : N < 4611686018427387904 := by omega
        have HBh := Lib.hid hBh
        have HE9 := Lib.hid hE9
        clear r0 r1 r2 hBh hE9 hT
        go_loopw [51] (fun y wr => ∃ (j : Nat) (s : TSt) (vs : Value), y = .int .i64 (j : Int) ∧ j ≤ q ∧ TM (W4.heap.size + 1 + 1) (W4.heap.size + 1 + 1 + 1 + 1 + 1) (W4.heap.size + 1 + 1) (W4.heap.size + 1 + 1 + 1) (W4.heap.size + 1 + 1 + 1 + 1) N SV (stepsV (W4.heap.size + 1) W4.heap.size (w.heap.size + 1) w.heap.size) vs wr s ∧
          Hid (TInv (stepsOf g l) (goodP (stepsOf g l) SV) s []) ∧ Below (W4.heap.size + 1 + 1) W9 wr ∧ Hid (∀ x ∈ g.init.take j, s.index x.toNat ≠ none)) (fun y _ => (q + 10 - intOf y).toNat)
        case atStart => exact ⟨0, _, _, rfl, Nat.zero_le _, hT9, TInv.start, Below.refl _ _, (fun x hx => by simp at hx)⟩
        case round =>
          clear hT9
          obtain ⟨j, s, vs, rfl, hj, hT, HTI, hB, HV⟩ := hrel
          have hBw := HBh.out.trans (hB.mono hβ9)
          by_cases hjq : j < q
          · have hjq' : (j : Int) < (q : Int) := by omega
            obtain ⟨x, hxq⟩ : ∃ x, g.init[j]? = some x := ⟨_, List.getElem?_eq_getElem (by rw [HQ.out]; exact hjq)⟩
            obtain ⟨gi, oi, rfl, hgi, hci⟩ := (HI1.out.below hBw).at (k := j) (by rw [HQ.out]; exact hjq)
            rw [(List.getElem?_eq_some_iff.1 hxq).2] at hci
            obtain ⟨x0, x1⟩ := hin.out x (List.mem_of_getElem? hxq)
            obtain ⟨X, hX⟩ : ∃ X : Nat, x = (X : Int) := ⟨x.toNat, by omega⟩
            have hta := take_at hxq
            have hXm : (X : Int) ∈ g.init := by rw [← hX]; exact List.mem_of_getElem? hxq
            rw [hX] at hta hci x1
            have hXN : X < N := by rw [HN.out] at x1; omega
            have HTA := Lib.hid hta
            have HXM := Lib.hid hXm
            have t2 := hT.1.t.cell 2
            simp only [List.getElem?_cons_zero, List.getElem?_cons_succ] at t2
            clear hta hXm hxq hX x0 x1
            cases hix : s.index X with
            | none =>
              have HLK := Lib.hid (lookFn _ _ _ _ _ _ _ _ _ _ _ X vs wr s g l hT (HE9.out.below hB) HF.out hXN hix HTI.out)
              have hgd : (s.index X).getD 0 = 0 := by rw [hix]; rfl
              have hbo : (s.index X).isSome = false := by rw [hix]; rfl
              clear hix
              go_wp2_with (at_lookup; refine wpList_igetokc _ rfl (.tmp 59) (.tmp 60) rfl rfl hT.1.index X rfl hXN hNN 0 false hgd hbo ?_)
              refine (HLK.out).mono ?_
              rintro e w5 ⟨b, rfl, hB5, hb1, hb0⟩
              have hB6 := hB.trans hB5
              have hBw6 := HBh.out.trans (hB6.mono hβ9)
              cases b with
              | true =>
                have hacc : accP g l := by
                  obtain ⟨y, h1, h2⟩ := hb1 rfl
                  refine ⟨(X : Int), HXM.out, y, h1, ?_⟩
                  rw [HSV.out]; exact h2
                have HACC := Lib.hid hacc
                clear hb1 hb0 hacc hT hB hB5 hB6
                go_wp2
                go_ret2
                exact ⟨true, rfl, ⟨(fun _ => ⟨rfl, HACC.out⟩), (fun _ => rfl)⟩, hBw6⟩
              | false =>
                obtain ⟨vs', s', hT', hTI', hr', hse'⟩ := hb0 rfl
                have HTI' := Lib.hid hTI'
                have HV' : Hid (∀ x ∈ g.init.take (j + 1), s'.index x.toNat ≠ none) := fun x hx => by
                  rw [HTA.out] at hx
                  rcases List.mem_append.1 hx with hx | hx
                  · exact hse' _ (HV.out x hx)
                  · rw [List.mem_singleton.1 hx]; exact hr'
                clear hb1 hb0 hT hTI' hr' hse' hB hB5
                go_wp2
                exact ⟨⟨j + 1, s', vs', rfl, by omega, hT', HTI', hB6, HV'⟩, by simp [intOf]; omega⟩
            | some ix =>
              have hgd : (s.index X).getD 0 = ix := by rw [hix]; rfl
              have hbo : (s.index X).isSome = true := by rw [hix]; rfl
              have HV' : Hid (∀ x ∈ g.init.take (j + 1), s.index x.toNat ≠ none) := fun x hx => by
                rw [HTA.out] at hx
                rcases List.mem_append.1 hx with hx | hx
                · exact HV.out x hx
                · rw [List.mem_singleton.1 hx]
                  show s.index X ≠ none
                  rw [hix]; simp
              clear hix
              go_wp2_with (at_lookup; refine wpList_igetokc _ rfl (.tmp 59) (.tmp 60) rfl rfl hT.1.index X rfl hXN hNN ix true hgd hbo ?_)
              exact ⟨⟨j + 1, s, vs, rfl, by omega, hT, HTI, hB, HV'⟩, by simp [intOf]; omega⟩
          · have hjq' : decide ((j : Int) < (q : Int)) = false := decide_eq_false (by omega)
            have hno : ¬ accP g l := by
              rintro ⟨x, hx, y, h1, h2⟩
              rw [HSV.out] at h2
              have htk : g.init.take j = g.init := List.take_of_length_le (by rw [HQ.out]; omega)
              exact HTI.out.over (HV.out x (by rw [htk]; exact hx)) h1 h2
            have HNO := Lib.hid hno
            clear hno hT
            go_wp2
            go_ret2
            exact ⟨false, rfl, ⟨(fun h => by cases h), (fun h => absurd h.2 HNO.out)⟩, hBw⟩
    · have hacc : accCode g l = 100 := by
        unfold accCode; rw [if_pos hok]
        unfold lasCode at hlok ⊢
        split
        · rfl
        · rename_i hc; rw [if_neg hc] at hlok; exact absurd rfl hlok
      have hlc : lasCode l = 100 := by
        unfold lasCode at hlok ⊢
        split
        · rfl
        · rename_i hc; rw [if_neg hc] at hlok; exact absurd rfl hlok
      rw [hacc]
      clear hok hlok hacc hcode0
      go_enter Tryd.func14, Tryd.ntmps14
      go_wp2_with (fail)
      generalize ((w.alloc (.cells #[.int .i64 g.sets, .slice a1 q cap1, .slice a2 n cap2] 25)).alloc (.cells #[.slice a3 p1 cap3, .slice a4 p2 cap4] 28)) = W0 at *
      refine (HCG.out).mono ?_
      rintro e W1 ⟨rfl, hb1⟩
      have hBc := hBb.trans (hb1.mono hBb.size)
      have hG1 := hGh.belowAll hb1
      have hW1 := hWh.belowAll hb1
      have HLC := Lib.hid (lassoCheck l (.agg #[.slice a3 p1 cap3, .slice a4 p2 cap4]) W1 ((HLA.out.below hBc).mono hBc.size) HB2.out)
      rw [hlc] at HLC
      have y0 := hW1.cell 0
      have y1 := hW1.cell 1
      simp at y0 y1
      clear hBb hGh hWh hsz0 hb1 hBa hlc
      go_wp2_with (fail)
      refine (HLC.out).mono ?_
      rintro e W2 ⟨rfl, hb2⟩
      have hBd := hBc.trans (hb2.mono hBc.size)
      clear hBc hG1 hW1 hb2 y0 y1
      go_wp2
      go_ret2
      exact ⟨false, rfl, ⟨(fun h => by cases h), (fun h => by cases h.1)⟩, hBd⟩
  · have hacc : accCode g l = 120 := by unfold accCode; rw [if_neg hok]
    have HCG := genCheck g (.agg #[.int .i64 g.sets, .slice a1 q cap1, .slice a2 n cap2]) _ ((HGA.out.below hBb).mono hBb.size) HB.out
    have hcode0 : genCode g = 120 := by unfold genCode; rw [if_neg hok]
    rw [hcode0] at HCG
    have HCG := Lib.hid HCG
    rw [hacc]
    clear hok hacc hcode0
    go_enter Tryd.func14, Tryd.ntmps14
    go_wp2_with (fail)
    generalize ((w.alloc (.cells #[.int .i64 g.sets, .slice a1 q cap1, .slice a2 n cap2] 25)).alloc (.cells #[.slice a3 p1 cap3, .slice a4 p2 cap4] 28)) = W0 at *
    refine (HCG.out).mono ?_
    rintro e W1 ⟨rfl, hb1⟩
    have hBc := hBb.trans (hb1.mono hBb.size)
    clear hBb hGh hWh hsz0 hb1 hBa
    go_wp2
    go_ret2
    exact ⟨false, rfl, ⟨(fun h => by cases h), (fun h => by cases h.1)⟩, hBc⟩
end Go.Proofs.YtelanndleinabaaDoor
