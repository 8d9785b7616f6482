/- The walk of look. -/
import Derived.Test.YtelanndleinabaaDoorLookS
import Derived.Test.YtelanndleinabaaDoorPart
import Derived.Deep.LoopGhost
namespace Go.Proofs.YtelanndleinabaaDoor
open Go.RowKit
set_option linter.unusedVariables false

theorem Tryd.info96 : (Tryd.prog.info? 96).map (fun i => (i.zero, i.size, i.bytes)) = some (some (.agg #[.int .i64 0, .slice none 0 0, .int .i64 0]), 3, 40) := by kernel_rfl
theorem own_fresh (w : World) (base : Nat) (hb : base ≤ w.heap.size) (t : TypeId) (size : Nat) (cs : Array Value) (hs : cs.size = size) : (w.alloc (.cells cs t)).ownsRow base t size (.slice (some ⟨w.heap.size, 0, none⟩) 1 1) 1 cs.toList :=
  ⟨by rw [Nat.one_mul, ← hs]; simp, .inr ⟨w.heap.size, 1, cs, rfl, hb, heap_alloc_new w _, Nat.le_refl _, by unfold maxLen; omega, by omega, by rw [Nat.one_mul, ← hs]; exact List.take_length⟩⟩

theorem min_form3 (a b : Nat) : Value.int .i64 (min (a : Int) (b : Int)) = .int .i64 ((min a b : Nat) : Int) := by
  congr 1; omega
/-- What look knows at its loop's head. -/
structure LK (β T mi ml mo N S root : Nat) (g : Gen) (l : Las) (s0 : TSt) (fv vs v : Value) (w0 wr : World) (s : TSt) (td : List FD) : Prop where
  inv : LInv (stepsOf g l) (goodP (stepsOf g l) S) root s (frOf td)
  mem : TM β T mi ml mo N S fv vs wr s
  row : Frs β g l wr v td
  below : Below β w0 wr
  root : s.index root ≠ none
  seen : ∀ x, s0.index x ≠ none → s.index x ≠ none
  len : td.length ≤ s.cnt

set_option maxHeartbeats 8000000 in
set_option maxRecDepth 1000000 in
theorem lookFn (β T mi ml mo N S bn bw bl bg root : Nat) (vs : Value) (w : World) (s0 : TSt) (g : Gen) (l : Las) (hT : TM β T mi ml mo N S (stepsV bn bw bl bg) vs w s0) (hE : SEnv β w bn bw bl bg g l) (hF : Fit2 g l N) (hroot : root < N) (hrn : s0.index root = none)
    (hI : TInv (stepsOf g l) (goodP (stepsOf g l) S) s0 []) :
    Calls Tryd.prog 28 #[.pointer (some ⟨T, 0, none⟩), .int .i64 (root : Int)] w fun e w' => ∃ b, e = .returned (.bool b) ∧ Below β w w' ∧ (b = true → ∃ y, Rch (stepsOf g l) root y ∧ goodP (stepsOf g l) S y) ∧
      (b = false → ∃ vs' s', TM β T mi ml mo N S (stepsV bn bw bl bg) vs' w' s' ∧ TInv (stepsOf g l) (goodP (stepsOf g l) S) s' [] ∧ s'.index root ≠ none ∧ ∀ x, s0.index x ≠ none → s'.index x ≠ none) := by
  have hN := hF.small
  have hNN : N < 4611686018427387904 := by omega
  have hTlt := hT.1.t.lt
  obtain ⟨b1, b2, b3, b4, m1, m2, m3⟩ := hT.1.bt
  have hβ : β ≤ w.heap.size := Nat.le_trans b1 (Nat.le_of_lt hTlt)
  have HF := Lib.hid hF
  have HE := Lib.hid hE
  have HI := Lib.hid hI
  have HRN := Lib.hid hrn
  have HEN := Lib.hid (enterFn β T mi ml mo N S bn bw bl bg root vs w s0 g l hT hE hF hroot hrn)
  obtain ⟨fv, hfv⟩ : ∃ fv, fv = stepsV bn bw bl bg := ⟨_, rfl⟩
  have HFV := Lib.hid hfv
  rw [← hfv] at HEN ⊢
  clear hT hE hF hI hrn hfv
  go_enter Tryd.func28, Tryd.ntmps28
  go_wp2
  go_step3
  go_wp2_with (fail)
  refine (HEN.out).mono ?_
  rintro e w1 ⟨lv, vs1, rfl, hown, hM1, hK1, hB1⟩
  obtain ⟨alv, clv, rfl, hcl1, hcl2⟩ := owns_form hown
  obtain ⟨nlv, hnlv⟩ : ∃ nlv, (stepsOf g l root).length = nlv := ⟨_, rfl⟩
  rw [hnlv] at hown
  have hown' : w1.ownsRow β 67 2 (.slice alv nlv clv) (stepsOf g l root).length (stps (stepsOf g l root)) := by rw [hnlv]; exact hown
  have hβ1 : β ≤ w1.heap.size := Nat.le_trans hβ hK1.size
  have hLK : Hid (LK β T mi ml mo N S root g l s0 fv vs1 (.slice (some ⟨w1.heap.size, 0, none⟩) 1 1) w (w1.alloc (.cells #[.int .i64 (root : Int), .slice alv nlv clv, .int .i64 0] 96)) (s0.enter root) [(root, .slice alv nlv clv, 0)]) := by
    have hb : Below w1.heap.size w1 (w1.alloc (.cells #[.int .i64 (root : Int), .slice alv nlv clv, .int .i64 0] 96)) := (Below.refl _ _).alloc (Nat.le_refl _) _
    refine ⟨LInv.start HI.out HRN.out, ⟨hM1.1.below hb, hM1.2⟩, ⟨own_fresh w1 β hβ1 96 3 #[.int .i64 (root : Int), .slice alv nlv clv, .int .i64 0] rfl, fun d hd => ?_⟩, hB1.alloc hβ1 _, by simp [TSt.enter, upd], fun x hx => ?_, by show 1 ≤ s0.cnt + 1; omega⟩
    · rw [List.mem_singleton.1 hd]; exact hown'.alloc _
    · by_cases e : x = root
      · simp [TSt.enter, upd, e]
      · simpa [TSt.enter, upd, e] using hx
  clear hown hown' hM1 hK1 hB1
  go_wp2
  go_step3
  go_wp2
  generalize w1.alloc (.cells #[.int .i64 (root : Int), .slice alv nlv clv, .int .i64 0] 96) = W1 at *
  go_loopg [5] (2 * (N - (s0.enter root).cnt) + 1) (fun gk v wr => ∃ (s : TSt) (td : List FD) (vs : Value), Hid (LK β T mi ml mo N S root g l s0 fv vs v w wr s td) ∧ Hid (gk = 2 * (N - s.cnt) + td.length))
  case atStart => exact ⟨_, _, _, hLK, rfl⟩
  case round =>
    clear hLK
    obtain ⟨s, td, vs2, HLK, HG⟩ := hrel
    obtain ⟨gO, hgO⟩ : ∃ gO, gO = gk := ⟨_, rfl⟩
    subst hgO
    cases td with
    | nil =>
      have hrow := HLK.out.row.row
      obtain ⟨av, cv, hv, _, _⟩ := owns_form hrow
      have hv' : u5 = .slice av 0 cv := hv
      clear hv hrow
      subst hv'
      go_wp2
      rw [Exit.noGoto_ret]
      go_ret
      exact ⟨false, rfl, HLK.out.below, (fun h => by cases h), fun _ => ⟨vs2, s, HLK.out.mem, HLK.out.inv.inv, HLK.out.root, HLK.out.seen⟩⟩
    | cons d tr =>
      obtain ⟨x, lv2, k0⟩ := d
      have hrow := HLK.out.row.row
      obtain ⟨gR, cv, hv, hgR1, hgR2, hc1, hc2, _, _⟩ := owns_some hrow (by simp)
      obtain ⟨m5, hm5⟩ : ∃ m5, tr.length = m5 := ⟨_, rfl⟩
      obtain ⟨n5, hn5⟩ : ∃ n5, m5 + 1 = n5 := ⟨_, rfl⟩
      have hv' : u5 = .slice (some ⟨gR, 0, none⟩) n5 cv := by rw [hv, ← hn5, ← hm5]; rfl
      have hc1' : n5 ≤ cv := by rw [← hn5, ← hm5]; exact hc1
      obtain ⟨al, cl, hlv, hl1, hl2⟩ := owns_form (HLK.out.row.each _ (List.mem_cons_self ..))
      obtain ⟨nl, hnl⟩ : ∃ nl, (stepsOf g l x).length = nl := ⟨_, rfl⟩
      simp only at hlv hl1
      rw [hnl] at hlv hl1
      unfold maxLen at hl2 hc2
      have HNL := Lib.hid hnl
      have HM5 := Lib.hid hm5
      have hsub : (n5 : Int) - 1 = (m5 : Int) := by omega
      have hpos : 0 < n5 := by omega
      have hmn : (m5 : Int) < (n5 : Int) := by omega
      have HN5 := Lib.hid hn5
      have HGO : Hid (gO = 2 * (N - s.cnt) + n5) := by
        have h1 := HG.out
        rw [List.length_cons, hm5, hn5] at h1
        exact h1
      clear HG
      subst hlv hv'
      clear hv hrow hm5 hn5 hc1 hnl
      go_wp2
      go_loopg [5] (nl - k0) (fun gk2 v wr2 => ∃ (s2 : TSt) (k : Nat) (vs3 : Value), v = .slice (some ⟨gR, 0, none⟩) n5 cv ∧ Hid (LK β T mi ml mo N S root g l s0 fv vs3 (.slice (some ⟨gR, 0, none⟩) n5 cv) w wr2 s2 ((x, .slice al nl cl, k) :: tr)) ∧ Hid (gk2 = nl - k) ∧ Hid (s2.cnt = s.cnt))
      case atStart => exact ⟨s, k0, vs2, rfl, HLK, rfl, rfl⟩
      case round =>
        clear HLK
        obtain ⟨s2, k, vs3, rfl, HLK, HG2, HC⟩ := hrel
        have hK := HLK.out
        obtain ⟨f0, f1, f2⟩ := hK.row.top
        rw [HM5.out] at f0 f1 f2
        have hkl : k ≤ nl := by rw [← HNL.out]; exact hK.inv.len (x, k) (List.mem_cons_self ..)
        obtain ⟨hgR3, hgR4, csR, hRh⟩ := own_holds hK.row.row
        have z2 := hRh.free (m5 * 3 + 2)
        by_cases hk : k < nl
        · have hk' : (k : Int) < (nl : Int) := by omega
          obtain ⟨e, heq⟩ : ∃ e, (stepsOf g l x)[k]? = some e := ⟨_, List.getElem?_eq_getElem (by rw [HNL.out]; exact hk)⟩
          have hown := hK.row.each _ (List.mem_cons_self ..)
          simp only at hown
          rw [HNL.out] at hown
          obtain ⟨gl, rfl, _, _, _, _, hcs, _⟩ := owns_head hown (by omega)
          obtain ⟨q0, q1⟩ := stps_at (stepsOf g l x) k (by rw [HNL.out]; exact hk)
          have hek : (stepsOf g l x)[k]'(by rw [HNL.out]; exact hk) = e := (List.getElem?_eq_some_iff.1 heq).2
          rw [hek] at q0 q1
          have d0 := (hcs (k * 2) (by omega)).trans q0
          have hxN : x < N := hK.mem.2.vis x (hK.inv.inv.vis x hK.inv.topOn)
          obtain ⟨p1, p2⟩ := HF.out.step hxN (List.mem_of_getElem? heq)
          have HE1 := Lib.hid heq
          have hM2 : TM β T mi ml mo N S fv vs3 (wr.setCell ⟨gR, m5 * 3 + 2, none⟩ (.int .i64 ((k + 1 : Nat) : Int))) s2 := ⟨hK.mem.1.far hRh (by decide) (by decide) _ _, hK.mem.2⟩
          have hR2 := hK.row.bump
          rw [HM5.out] at hR2
          have hB2 := hK.below.setCell (p := ⟨gR, m5 * 3 + 2, none⟩) hgR3 (.int .i64 ((k + 1 : Nat) : Int))
          have c2 := hK.mem.1.t.cell 2
          have c4 := hK.mem.1.t.cell 4
          simp at c2 c4
          have hLI := Lib.hid hK.inv
          have HLEN := Lib.hid hK.len
          have hRt := Lib.hid hK.root
          have hSe := Lib.hid hK.seen
          have hlk : k < 131073 := by
            have := HF.out.few (p := x)
            rw [HNL.out] at this
            omega
          clear hK hek q0 q1 hcs hown heq HLK hRh
          obtain ⟨e1, e2⟩ := e
          simp only at d0 p1 p2 HE1
          have hk1 : ((k + 1 : Nat) : Int) = (k : Int) + 1 := by omega
          rw [hk1] at hM2 hR2 hB2
          have hne : T ≠ gR := by
            have := hM2.1.t
            intro e
            obtain ⟨_, _, cs2, hh⟩ := own_holds hR2.row
            rw [e] at this
            exact (this.ne_of_type hh (by decide)) rfl
          have hne2 : gR ≠ T := hne.symm
          go_wp2
          go_quiet (fail)
          obtain ⟨qa, hqa⟩ : ∃ qa, qa = nq := ⟨_, rfl⟩
          subst hqa
          go_wp2
          go_quiet (fail)
          have hM3 : TM β T mi ml mo N S fv vs3 ((wr.drewN (qa + nq)).setCell ⟨gR, m5 * 3 + 2, none⟩ (.int .i64 ((k : Int) + 1))) s2 := ⟨hM2.1.drewN (qa + nq), hM2.2⟩
          have hR3 : Frs β g l ((wr.drewN (qa + nq)).setCell ⟨gR, m5 * 3 + 2, none⟩ (.int .i64 ((k : Int) + 1))) (.slice (some ⟨gR, 0, none⟩) n5 cv) ((x, .slice (some ⟨gl, 0, none⟩) nl cl, k + 1) :: tr) := hR2.drewN (qa + nq)
          have hB3 : Below β w ((wr.drewN (qa + nq)).setCell ⟨gR, m5 * 3 + 2, none⟩ (.int .i64 ((k : Int) + 1))) := below_drewN' hB2 (qa + nq)
          cases hix : s2.index e1 with
          | none =>
            have HEN2 := Lib.hid (enterFn β T mi ml mo N S bn bw bl bg e1 vs3 _ s2 g l (by rw [← HFV.out]; exact hM3) (HE.out.below hB3) HF.out p1 hix)
            have hgd : (s2.index e1).getD 0 = 0 := by rw [hix]; rfl
            have hbo : (s2.index e1).isSome = false := by rw [hix]; rfl
            have HIX := Lib.hid hix
            clear hix hM2 hR2 hB2 f0 f1 d0
            go_wp2_with (at_lookup; refine wpList_igetokc _ rfl (.tmp 56) (.tmp 57) rfl rfl hM3.1.index e1 rfl p1 hNN 0 false hgd hbo ?_)
            clear c2 f2 z2
            refine (HEN2.out).mono ?_
            rintro e w3 ⟨lv3, vs4, rfl, hown3, hM4, hK4, hB4⟩
            rw [← HFV.out] at hM4
            obtain ⟨al3, cl3, rfl, hcl3, hcl4⟩ := owns_form hown3
            obtain ⟨n3, hn3⟩ : ∃ n3, (stepsOf g l e1).length = n3 := ⟨_, rfl⟩
            have hR4 := hR3.kp hK4
            have hB5 := hB3.trans hB4
            rw [hn3] at hcl3 ⊢
            have hown4 : w3.ownsRow β 67 2 (.slice al3 n3 cl3) (stepsOf g l e1).length (stps (stepsOf g l e1)) := by rw [← hn3]; exact hown3
            have hlen2 : n5 ≤ N := by
              have h1 := HLEN.out
              have h2 := hM3.2.cnt
              have h3 := cntB_le s2.index N
              have := HN5.out
              have := HM5.out
              simp only [List.length_cons] at h1
              omega
            have hRr : w3.ownsRow β 96 3 (.slice (some ⟨gR, 0, none⟩) n5 cv) n5 (fds ((x, .slice (some ⟨gl, 0, none⟩) nl cl, k + 1) :: tr).reverse) := by
              have h1 := hR4.row
              rw [List.length_cons, HM5.out, HN5.out] at h1
              exact h1
            obtain ⟨rowl, hrowl⟩ : ∃ rl, fds ((x, .slice (some ⟨gl, 0, none⟩) nl cl, k + 1) :: tr).reverse = rl := ⟨_, rfl⟩
            rw [hrowl] at hRr
            have hbA : Below w3.heap.size w3 (w3.alloc (.cells #[.int .i64 (e1 : Int), .slice al3 n3 cl3, .int .i64 0] 96)) := (Below.refl _ _).alloc (Nat.le_refl _) _
            have hMA := hM4.1.below hbA
            have hRA := hR4.kp (Kp.of_below hbA)
            have hOA := hown4.alloc (.cells #[.int .i64 (e1 : Int), .slice al3 n3 cl3, .int .i64 0] 96)
            have hβ3 : β ≤ w3.heap.size := Nat.le_trans b1 (Nat.le_of_lt hM4.1.t.lt)
            have hBA := hB5.alloc hβ3 (.cells #[.int .i64 (e1 : Int), .slice al3 n3 cl3, .int .i64 0] 96)
            have hRrA := hRr.alloc (.cells #[.int .i64 (e1 : Int), .slice al3 n3 cl3, .int .i64 0] 96)
            have hPu := Lib.hid hM4.2
            obtain ⟨i0, hi0, hz0, hz1, hz2⟩ := info_parts Tryd.info96
            have HRL := Lib.hid hrowl
            clear hown3 hn3 hrowl hR4 hRr hM4 hbA hK4 hR3 hM3 hB3 hB4 hB5 hown4
            go_wp2_with (at_builtin; refine wpList_append_own_at _ rfl (.tmp 63) (.tmp 67) _ rfl β 96 i0 _ 3 40 Tryd.underlying98 hi0 hz0 hz1 hz2 rfl (by omega) (.slice (some ⟨gR, 0, none⟩) n5 cv) n5 rowl rfl hRrA ⟨w3.heap.size, 0, none⟩ 1 1 [.int .i64 (e1 : Int), .slice al3 n3 cl3, .int .i64 0] rfl rfl ?c1 ?c2 ?c3 ?c4 ?c5 ?_)
            case c1 => exact cells_of_new _ _ rfl [.int .i64 (e1 : Int), .slice al3 n3 cl3, .int .i64 0] 96
            case c2 => simp [Value.oneCell']
            case c3 => unfold maxLen; omega
            case c4 => omega
            case c5 => exact Nat.le_trans hβ3 (by simp)
            intro v' w4 hS4 g4 _ _
            have hM5 := hMA.rowGrown hRrA g4
            have hR5 : Frs β g l w4 v' ((e1, .slice al3 n3 cl3, 0) :: (x, .slice (some ⟨gl, 0, none⟩) nl cl, k + 1) :: tr) :=
              hRA.push (by rw [List.length_cons, HM5.out, HN5.out, HRL.out]; exact hS4) (fun v n xs h => h.kept g4 (own_pair h hRrA (by decide))) hOA
            have hB6 := hBA.grown g4 (Nat.le_trans hβ3 (by simp)) (fun k e => (hRrA.lt k e).1)
            have HFin : Hid (LK β T mi ml mo N S root g l s0 fv vs4 v' w w4 (s2.enter e1) ((e1, .slice al3 n3 cl3, 0) :: (x, .slice (some ⟨gl, 0, none⟩) nl cl, k + 1) :: tr)) := by
              refine ⟨hLI.out.enter HE1.out HIX.out, ⟨hM5, hPu.out⟩, hR5, hB6, ?_, ?_, ?_⟩
              · by_cases e : root = e1
                · simp [TSt.enter, upd, e]
                · simpa [TSt.enter, upd, e] using hRt.out
              · intro y hy
                by_cases e : y = e1
                · simp [TSt.enter, upd, e]
                · simpa [TSt.enter, upd, e] using hSe.out y hy
              · have := HLEN.out
                simp only [List.length_cons] at this ⊢
                show _ ≤ s2.cnt + 1
                omega
            clear hMA hRA hOA hBA hRrA hS4 g4 hM5 hR5 hB6
            go_wp2
            go_roundg (2 * (N - (s2.enter e1).cnt) + (n5 + 1))
            case measure =>
              have h1 : (s2.enter e1).cnt = s2.cnt + 1 := rfl
              have h2 := cntB_lt p1 HIX.out
              have h3 := hPu.out.cnt
              have h4 : cntB (s2.enter e1).index N = cntB s2.index N + 1 := cntB_new p1 HIX.out
              have h5 := HC.out
              rw [HGO.out]
              omega
            case rel =>
              refine ⟨s2.enter e1, _, vs4, HFin, ?_⟩
              show _ = _
              rw [List.length_cons, List.length_cons, HM5.out, HN5.out]
          | some ix =>
            have hgd : (s2.index e1).getD 0 = ix := by rw [hix]; rfl
            have hbo : (s2.index e1).isSome = true := by rw [hix]; rfl
            have HIX := Lib.hid hix
            clear hix
            by_cases hon : e1 ∈ s2.stack
            · have hob : (onF s2 e1).isSome = true := by unfold onF; rw [if_pos hon]; rfl
              go_wp2_with (first | (at_lookup; refine wpList_igetokc _ rfl (.tmp 56) (.tmp 57) rfl rfl hM3.1.index e1 rfl p1 hNN ix true hgd hbo ?_) | (at_lookup; refine wpList_bgetc _ rfl (.tmp 72) (.tmp 73) rfl rfl hM3.1.on e1 rfl p1 hNN true hob ?_))
              go_wp2
              have hR3' := hR3
              have hne3 := hne
              generalize (wr.drewN (qa + nq)).setCell ⟨gR, m5 * 3 + 2, none⟩ (.int .i64 ((k : Int) + 1)) = W2 at *
              have x2 := hM3.1.t.cell 2
              have x3 := hM3.1.t.cell 3
              simp at x2 x3
              obtain ⟨y0, y1, y2⟩ := hR3.top
              rw [HM5.out] at y0
              clear y1 y2
              refine region_tail 24 (by kernel_rfl) (by kernel_rfl) ?_
              simp only [List.take_succ_cons, List.take_zero, List.drop_succ_cons, List.drop_zero]
              repeat still_step
              have hlx : (lowF s2 x).getD 0 = s2.low x := lowF_at (hLI.out.inv.vis x hLI.out.topOn)
              refine still_iget rfl (.tmp 86) (.tmp 90) rfl rfl hM3.1.low x rfl hxN hNN (s2.low x) hlx ?_
              repeat still_step
              refine still_iget rfl (.tmp 95) (.tmp 96) rfl rfl hM3.1.index e1 rfl p1 hNN ix hgd ?_
              repeat still_step
              refine wpStill_nil ?_
              have hv : s2.index e1 ≠ none := by rw [HIX.out]; simp
              have hxv : s2.index x ≠ none := hLI.out.inv.vis x hLI.out.topOn
              have hmc : min (s2.low x) ix < 4611686018427387904 := by
                have := (hM3.2.ilt e1 ix HIX.out).1
                omega
              refine wpList_iput _ rfl (.tmp 78) (.tmp 82) (.tmp 98) rfl rfl hM3.1.drew.low x (min (s2.low x) ix) rfl ?hv hxN hNN hmc ?hk
              case hv => exact min_form3 _ _
              case hk =>
              intro w5 hL5 g5
              have hM5 := hM3.1.drew.putL g5 hL5
              rw [← lowF_lower hxv] at hM5
              have hR5 := hR3.drew.kp ((Kp.refl _).imap g5 hM3.1.drew.low)
              have hB5 := hB3.drew.grown g5 (Nat.le_trans b1 (Nat.le_of_lt hM3.1.t.lt)) (fun k e => by injection e with e; omega)
              have hix2 : s2.ix e1 = ix := ix_of HIX.out
              have hLI5 := hLI.out.on_ HE1.out hon
              simp only at hLI5
              rw [hix2] at hLI5
              have HFin : Hid (LK β T mi ml mo N S root g l s0 fv vs3 (.slice (some ⟨gR, 0, none⟩) n5 cv) w w5 (s2.lower x ix) ((x, .slice (some ⟨gl, 0, none⟩) nl cl, k + 1) :: tr)) :=
                ⟨hLI5, ⟨hM5, hM3.2.lower⟩, hR5, hB5, hRt.out, hSe.out, HLEN.out⟩
              clear hM2 hR2 hB2 f0 f1 d0 hR3 hB3 hM3 hv hxv hmc hon hob hM5 hR5 hB5 hLI5 hL5 g5 hR3' hne3 x2 x3 y0 hlx hix2
              go_wp2
              go_roundg (nl - (k + 1))
              case measure => rw [HG2.out]; omega
              case rel => exact ⟨s2.lower x ix, k + 1, vs3, rfl, HFin, rfl, HC⟩
            · have hob : (onF s2 e1).isSome = false := by unfold onF; rw [if_neg hon]; rfl
              have hv : s2.index e1 ≠ none := by rw [HIX.out]; simp
              have HFin : Hid (LK β T mi ml mo N S root g l s0 fv vs3 (.slice (some ⟨gR, 0, none⟩) n5 cv) w ((wr.drewN (qa + nq)).setCell ⟨gR, m5 * 3 + 2, none⟩ (.int .i64 ((k : Int) + 1))) s2 ((x, .slice (some ⟨gl, 0, none⟩) nl cl, k + 1) :: tr)) :=
                ⟨hLI.out.off HE1.out hv hon, hM3, hR3, hB3, hRt.out, hSe.out, HLEN.out⟩
              clear hM2 hR2 hB2 f0 f1 d0 hR3 hB3 hv hon
              go_wp2_with (first | (at_lookup; refine wpList_igetokc _ rfl (.tmp 56) (.tmp 57) rfl rfl hM3.1.index e1 rfl p1 hNN ix true hgd hbo ?_) | (at_lookup; refine wpList_bgetc _ rfl (.tmp 72) (.tmp 73) rfl rfl hM3.1.on e1 rfl p1 hNN false hob ?_))
              go_roundg (nl - (k + 1))
              case measure => rw [HG2.out]; omega
              case rel => exact ⟨s2, k + 1, vs3, rfl, HFin, rfl, HC⟩
        · have hk' : decide ((k : Int) < (nl : Int)) = false := decide_eq_false (by omega)
          have hkn : k = (stepsOf g l x).length := by rw [HNL.out]; omega
          have hxN : x < N := hK.mem.2.vis x (hK.inv.inv.vis x hK.inv.topOn)
          have hM0 : TM β T mi ml mo N S fv vs3 wr s2 := hK.mem
          have hR0 := hK.row.pop
          rw [HM5.out] at hR0
          have hB0 := hK.below
          have HL0 : Hid (LInv (stepsOf g l) (goodP (stepsOf g l) S) root s2 ((x, (stepsOf g l x).length) :: frOf tr)) := by rw [← hkn]; exact hK.inv
          have hLEN0 := hK.len
          have HRTS := Lib.hid hK.root
          have HSES := Lib.hid hK.seen
          have hLEN1 : tr.length ≤ s2.cnt := by simp only [List.length_cons] at hLEN0; omega
          have hml : (m5 : Int) ≤ (n5 : Int) := by omega
          clear hK hkn hLEN0 HLK hRh z2
          cases tr with
          | nil =>
            have hm0 : m5 = 0 := by rw [← HM5.out]; rfl
            have hmd : decide ((0 : Int) < (m5 : Int)) = false := decide_eq_false (by omega)
            have hmd2 : decide (0 < m5) = false := decide_eq_false (by omega)
            have hmd3 : ¬ 0 < m5 := by omega
            clear hm0
            go_wp2
            go_quiet (fail)
            obtain ⟨qa, hqa⟩ : ∃ qa, qa = nq := ⟨_, rfl⟩
            subst hqa
            go_wp2
            have hM : TM β T mi ml mo N S fv vs3 (wr.drewN qa) s2 := ⟨hM0.1.drewN qa, hM0.2⟩
            have hR := hR0.drewN qa
            have hB := below_drewN' hB0 qa
            have HL := HL0
            have HCS : Hid (s2.cnt = s2.cnt) := rfl
            have HLENS := Lib.hid hLEN1
            have hlow := HL0.out.alone
            clear hM0 hR0 hB0 hLEN1 f0 f1 f2 HL0
            generalize wr.drewN qa = W2 at *
            have hxv : s2.index x ≠ none := HL.out.inv.vis x HL.out.topOn
            have hgl : (lowF s2 x).getD 0 = s2.ix x := (lowF_at hxv).trans hlow
            have hgi : (s2.index x).getD 0 = s2.ix x := rfl
            have HPT := Lib.hid (partFn β T mi ml mo N S bn bw bl bg x vs3 W2.drew s2 g l (by rw [← HFV.out]; exact ⟨hM.1.drew, hM.2⟩) (HE.out.below hB.drew) HF.out HL.out.topOn HL.out.nodup)
            have x2 := hM.1.t.cell 2
            have x3 := hM.1.t.cell 3
            simp at x2 x3
            have HLOW := Lib.hid hlow
            clear hlow
            generalize s2.ix x = ixx at hgl hgi
            refine region_tail 16 (by kernel_rfl) (by kernel_rfl) ?_
            simp only [List.take_succ_cons, List.take_zero, List.drop_succ_cons, List.drop_zero]
            repeat still_step
            refine still_iget rfl (.tmp 139) (.tmp 140) rfl rfl hM.1.low x rfl hxN hNN ixx hgl ?_
            repeat still_step
            refine still_iget rfl (.tmp 145) (.tmp 146) rfl rfl hM.1.index x rfl hxN hNN ixx hgi ?_
            repeat still_step
            refine wpStill_nil ?_
            clear x2 x3
            go_wp2_with (fail)
            refine (HPT.out).mono ?_
            rintro e w6 ⟨vs5, SS, RR, rfl, hAcc, hM6, hK6, hB6⟩
            rw [← HFV.out] at hM6
            have hR6 := hR.drew.kp hK6
            have hB7 := hB.drew.trans hB6
            have hver := (hAcc.congr (inPart_scc HL.out HLOW.out)).verdict (S := S)
            obtain ⟨b, hbb⟩ : ∃ b, (RR && (SS == S)) = b := ⟨_, rfl⟩
            rw [hbb] at hver ⊢
            have HVER := Lib.hid hver
            clear hver hbb hAcc hK6 hB6 hR hM hB
            cases b with
            | true =>
              have hgood : ∃ y, Rch (stepsOf g l) root y ∧ goodP (stepsOf g l) S y := ⟨x, HL.out.src (x, (stepsOf g l x).length) (List.mem_cons_self ..), HVER.out.1 rfl⟩
              have HGOOD := Lib.hid hgood
              clear hM6 hR6 hgood
              go_wp2
              rw [Exit.noGoto_ret]
              go_ret
              exact ⟨true, rfl, hB7, (fun _ => HGOOD.out), (fun h => by cases h)⟩
            | false =>
              have hng : ¬ goodP (stepsOf g l) S x := fun h => by have := HVER.out.2 h; cases this
              have HFin : Hid (LK β T mi ml mo N S root g l s0 fv vs5 (.slice (some ⟨gR, 0, none⟩) m5 cv) w w6 (s2.pop x) []) :=
                ⟨HL.out.popped HLOW.out hng (fun y h1 h2 h3 => goodP_same h1 h2 h3), hM6, hR6, hB7, HRTS.out, HSES.out, HLENS.out⟩
              clear hM6 hR6 hB7 hng
              go_wp2
              go_roundg (2 * (N - (s2.pop x).cnt) + m5)
              case measure =>
                have h1 : (s2.pop x).cnt = s2.cnt := rfl
                have h2 := HCS.out
                have h3 := HC.out
                rw [HGO.out]
                omega
              case rel => exact ⟨s2.pop x, _, vs5, HFin, by show _ = _; rw [show m5 = ([] : List FD).length from HM5.out.symm]⟩
          | cons d tr2 =>
            obtain ⟨u, lvu, ku⟩ := d
            obtain ⟨m6, hm6⟩ : ∃ m6, tr2.length = m6 := ⟨_, rfl⟩
            have hm56 : m6 + 1 = m5 := by rw [← HM5.out, ← hm6]; rfl
            have hmd : (0 : Int) < (m5 : Int) := by omega
            have hmd2 : 0 < m5 := by omega
            have hms : (m5 : Int) - 1 = (m6 : Int) := by omega
            have hml6 : (m6 : Int) < (m5 : Int) := by omega
            obtain ⟨y0, y1, y2⟩ := hR0.top
            rw [hm6] at y0
            clear y1 y2
            have HM56 := Lib.hid hm56
            have HM6 := Lib.hid hm6
            have c3 := hM0.1.t.cell 3
            simp at c3
            clear hm56 hm6
            go_wp2
            go_quiet (fail)
            obtain ⟨qa, hqa⟩ : ∃ qa, qa = nq := ⟨_, rfl⟩
            subst hqa
            go_wp2
            have hM1 : TM β T mi ml mo N S fv vs3 (wr.drewN qa) s2 := ⟨hM0.1.drewN qa, hM0.2⟩
            have hR1 := hR0.drewN qa
            have hB1 := below_drewN' hB0 qa
            have hyy : (wr.drewN qa).cell? ⟨gR, m6 * 3, none⟩ = some (.int .i64 (u : Int)) := y0
            have x3 : (wr.drewN qa).cell? ⟨T, 3, none⟩ = some (.map (some ml)) := c3
            clear hM0 hR0 hB0 f0 f1 f2 y0 c3
            generalize wr.drewN qa = W2 at *
            have huv : s2.index u ≠ none := HL0.out.inv.vis u (HL0.out.inv.fon (u, (stepsOf g l u).drop (ku - 1)) (List.mem_cons_of_mem _ (List.mem_cons_self ..)))
            have huN : u < N := hM1.2.vis u huv
            have hxv0 : s2.index x ≠ none := HL0.out.inv.vis x HL0.out.topOn
            have hgu : (lowF s2 u).getD 0 = s2.low u := lowF_at huv
            have hgx : (lowF s2 x).getD 0 = s2.low x := lowF_at hxv0
            refine region_tail 18 (by kernel_rfl) (by kernel_rfl) ?_
            simp only [List.take_succ_cons, List.take_zero, List.drop_succ_cons, List.drop_zero]
            repeat still_step
            refine still_iget rfl (.tmp 126) (.tmp 127) rfl rfl hM1.1.low u rfl huN hNN (s2.low u) hgu ?_
            repeat still_step
            refine still_iget rfl (.tmp 132) (.tmp 133) rfl rfl hM1.1.low x rfl hxN hNN (s2.low x) hgx ?_
            repeat still_step
            refine wpStill_nil ?_
            have hmc : min (s2.low u) (s2.low x) < 4611686018427387904 := by
              obtain ⟨ixv, hixv⟩ : ∃ a, s2.index x = some a := by
                cases h : s2.index x with
                | none => exact absurd h hxv0
                | some a => exact ⟨a, rfl⟩
              have := (hM1.2.ilt x ixv hixv).2
              omega
            refine wpList_iput _ rfl (.tmp 121) (.tmp 122) (.tmp 135) rfl rfl hM1.1.drew.low u (min (s2.low u) (s2.low x)) rfl ?hv huN hNN hmc ?hk
            case hv => exact min_form3 _ _
            case hk =>
            intro w5 hL5 g5
            have hM5 := hM1.1.drew.putL g5 hL5
            rw [← lowF_lower huv] at hM5
            have hM : TM β T mi ml mo N S fv vs3 w5 (s2.lower u (s2.low x)) := ⟨hM5, hM1.2.lower⟩
            have hR := hR1.drew.kp ((Kp.refl _).imap g5 hM1.1.drew.low)
            have hB := hB1.drew.grown g5 (Nat.le_trans b1 (Nat.le_of_lt hM1.1.t.lt)) (fun k e => by injection e with e; omega)
            have HL := Lib.hid HL0.out.lows
            have HCS : Hid ((s2.lower u (s2.low x)).cnt = s2.cnt) := rfl
            have HLENS : Hid (((u, lvu, ku) :: tr2).length ≤ (s2.lower u (s2.low x)).cnt) := hLEN1
            clear hM5 hM1 hR1 hB1 hL5 g5 huv hgu hgx hmc hxv0 hyy x3 hLEN1
            have hux : (s2.lower u (s2.low x)).low u ≤ (s2.lower u (s2.low x)).low x := by
              rw [lower_low_same]
              by_cases e : x = u
              · subst e; rw [lower_low_same]; omega
              · rw [lower_low e]; omega
            have HUX := Lib.hid hux
            clear hux HL0
            go_wp2
            by_cases hlow : (s2.lower u (s2.low x)).low x = (s2.lower u (s2.low x)).ix x
            · skip
              have hxv : (s2.lower u (s2.low x)).index x ≠ none := HL.out.inv.vis x HL.out.topOn
              have hgl : (lowF (s2.lower u (s2.low x)) x).getD 0 = (s2.lower u (s2.low x)).ix x := (lowF_at hxv).trans hlow
              have hgi : ((s2.lower u (s2.low x)).index x).getD 0 = (s2.lower u (s2.low x)).ix x := rfl
              have HPT := Lib.hid (partFn β T mi ml mo N S bn bw bl bg x vs3 w5.drew (s2.lower u (s2.low x)) g l (by rw [← HFV.out]; exact ⟨hM.1.drew, hM.2⟩) (HE.out.below hB.drew) HF.out HL.out.topOn HL.out.nodup)
              have x2 := hM.1.t.cell 2
              have x3 := hM.1.t.cell 3
              simp at x2 x3
              have HLOW := Lib.hid hlow
              clear hlow
              generalize (s2.lower u (s2.low x)).ix x = ixx at hgl hgi
              refine region_tail 16 (by kernel_rfl) (by kernel_rfl) ?_
              simp only [List.take_succ_cons, List.take_zero, List.drop_succ_cons, List.drop_zero]
              repeat still_step
              refine still_iget rfl (.tmp 139) (.tmp 140) rfl rfl hM.1.low x rfl hxN hNN ixx hgl ?_
              repeat still_step
              refine still_iget rfl (.tmp 145) (.tmp 146) rfl rfl hM.1.index x rfl hxN hNN ixx hgi ?_
              repeat still_step
              refine wpStill_nil ?_
              clear x2 x3
              go_wp2_with (fail)
              refine (HPT.out).mono ?_
              rintro e w6 ⟨vs5, SS, RR, rfl, hAcc, hM6, hK6, hB6⟩
              rw [← HFV.out] at hM6
              have hR6 := hR.drew.kp hK6
              have hB7 := hB.drew.trans hB6
              have hver := (hAcc.congr (inPart_scc HL.out HLOW.out)).verdict (S := S)
              obtain ⟨b, hbb⟩ : ∃ b, (RR && (SS == S)) = b := ⟨_, rfl⟩
              rw [hbb] at hver ⊢
              have HVER := Lib.hid hver
              clear hver hbb hAcc hK6 hB6 hR hM hB
              cases b with
              | true =>
                have hgood : ∃ y, Rch (stepsOf g l) root y ∧ goodP (stepsOf g l) S y := ⟨x, HL.out.src (x, (stepsOf g l x).length) (List.mem_cons_self ..), HVER.out.1 rfl⟩
                have HGOOD := Lib.hid hgood
                clear hM6 hR6 hgood
                go_wp2
                rw [Exit.noGoto_ret]
                go_ret
                exact ⟨true, rfl, hB7, (fun _ => HGOOD.out), (fun h => by cases h)⟩
              | false =>
                have hng : ¬ goodP (stepsOf g l) S x := fun h => by have := HVER.out.2 h; cases this
                have HFin : Hid (LK β T mi ml mo N S root g l s0 fv vs5 (.slice (some ⟨gR, 0, none⟩) m5 cv) w w6 ((s2.lower u (s2.low x)).pop x) ((u, lvu, ku) :: tr2)) :=
                  ⟨HL.out.popped HLOW.out hng (fun y h1 h2 h3 => goodP_same h1 h2 h3), hM6, hR6, hB7, HRTS.out, HSES.out, HLENS.out⟩
                clear hM6 hR6 hB7 hng
                go_wp2
                go_roundg (2 * (N - ((s2.lower u (s2.low x)).pop x).cnt) + m5)
                case measure =>
                  have h1 : ((s2.lower u (s2.low x)).pop x).cnt = (s2.lower u (s2.low x)).cnt := rfl
                  have h2 := HCS.out
                  have h3 := HC.out
                  rw [HGO.out]
                  omega
                case rel => exact ⟨(s2.lower u (s2.low x)).pop x, _, vs5, HFin, by show _ = _; rw [HM5.out]⟩
            · skip
              have hxv : (s2.lower u (s2.low x)).index x ≠ none := HL.out.inv.vis x HL.out.topOn
              obtain ⟨lx, hlx⟩ : ∃ lx, (s2.lower u (s2.low x)).low x = lx := ⟨_, rfl⟩
              obtain ⟨ixx, hixx⟩ : ∃ ixx, (s2.lower u (s2.low x)).ix x = ixx := ⟨_, rfl⟩
              have hgl : (lowF (s2.lower u (s2.low x)) x).getD 0 = lx := (lowF_at hxv).trans hlx
              have hgi : ((s2.lower u (s2.low x)).index x).getD 0 = ixx := hixx
              have HLOW := Lib.hid hlow
              rw [hlx, hixx] at hlow
              have hcmp : ((lx : Int) == (ixx : Int)) = false := by simp; omega
              have x2 := hM.1.t.cell 2
              have x3 := hM.1.t.cell 3
              simp at x2 x3
              have HFin : Hid (LK β T mi ml mo N S root g l s0 fv vs3 (.slice (some ⟨gR, 0, none⟩) m5 cv) w w5.drew (s2.lower u (s2.low x)) ((u, lvu, ku) :: tr2)) :=
                ⟨HL.out.leave HLOW.out HUX.out, ⟨hM.1.drew, hM.2⟩, hR.drew, hB.drew, HRTS.out, HSES.out, HLENS.out⟩
              clear hlow hlx hixx
              refine region_tail 16 (by kernel_rfl) (by kernel_rfl) ?_
              simp only [List.take_succ_cons, List.take_zero, List.drop_succ_cons, List.drop_zero]
              repeat still_step
              refine still_iget rfl (.tmp 139) (.tmp 140) rfl rfl hM.1.low x rfl hxN hNN lx hgl ?_
              repeat still_step
              refine still_iget rfl (.tmp 145) (.tmp 146) rfl rfl hM.1.index x rfl hxN hNN ixx hgi ?_
              repeat still_step
              refine wpStill_nil ?_
              clear x2 x3 hM hR hB
              go_wp2
              go_roundg (2 * (N - (s2.lower u (s2.low x)).cnt) + m5)
              case measure =>
                have h2 := HCS.out
                have h3 := HC.out
                rw [HGO.out]
                omega
              case rel => exact ⟨s2.lower u (s2.low x), _, vs3, HFin, by show _ = _; rw [HM5.out]⟩
end Go.Proofs.YtelanndleinabaaDoor
