/- The walk of sextantref12.Reach. -/
import Derived.Test.YtelanndleinabaaDoorBfs
import Derived.Test.YtelanndleinabaaDoorAChk
namespace Go.Proofs.YtelanndleinabaaDoor
open Go.RowKit
set_option linter.unusedVariables false

def metB (met : Nat → Option Unit) (N : Nat) : List Value := (List.range N).map fun x => Value.bool (met x).isSome
theorem metB_len (met : Nat → Option Unit) (N : Nat) : (metB met N).length = N := by simp [metB]
theorem metB_at (met : Nat → Option Unit) {N x : Nat} (h : x < N) : (metB met N)[x]? = some (.bool (met x).isSome) := by simp [metB, h]
theorem metB_put (met : Nat → Option Unit) {N x : Nat} (h : x < N) : (metB met N).set x (.bool true) = metB (upd met x (some ())) N := by
  apply List.ext_getElem?
  intro j
  by_cases hj : j < N
  · rw [List.getElem?_set, metB_at _ hj, metB_len]
    by_cases e : x = j
    · subst e
      rw [metB_at _ hj, upd_same]; simp [h]
    · rw [if_neg e, metB_at _ hj, upd_other met _ (fun he => e he.symm)]
  · rw [List.getElem?_eq_none (by rw [List.length_set, metB_len]; omega), List.getElem?_eq_none (by rw [metB_len]; omega)]
theorem Tryd.info4 : (Tryd.prog.info? 4).map (fun i => (i.zero, i.size, i.bytes)) = some (some (.bool false), 1, 1) := by kernel_rfl
/-- A graph's first half: the pairs to which moves lead. -/
def GraphTo (B : Nat) (w : World) (v : Value) (adj : Adj) (N : Nat) : Prop := RowII B w v ((List.range N).map fun x => (adj x).map fun e => (e.1 : Int))
/-- What Reach knows in its loops. -/
structure RcW (gm cm N : Nat) (adj : Adj) (fr : List Nat) (bx : List Value) (w0 w : World) (vr : Value) (met : Nat → Option Unit) (row : List Nat) : Prop where
  inv : RInv adj N fr met row
  met : w.ownsRow w0.heap.size 4 1 (.slice (some ⟨gm, 0, none⟩) N cm) N (metB met N)
  row : w.ownsRow w0.heap.size 3 1 vr row.length (nats row)
  below : Below w0.heap.size w0 w
  box : Holds w w0.heap.size 59 bx
theorem RcW.drewN {gm cm N : Nat} {adj : Adj} {fr : List Nat} {bx : List Value} {w0 w : World} {vr : Value} {met : Nat → Option Unit} {row : List Nat} (h : RcW gm cm N adj fr bx w0 w vr met row) (n : Nat) : RcW gm cm N adj fr bx w0 (w.drewN n) vr met row :=
  ⟨h.inv, h.met, h.row, below_drewN' h.below n, h.box⟩
theorem RcW.put {gm cm N x : Nat} {adj : Adj} {fr : List Nat} {bx : List Value} {w0 w w3 : World} {vr vr' : Value} {met : Nat → Option Unit} {row : List Nat} (h : RcW gm cm N adj fr bx w0 w vr met row) (hx : x < N) (hm : met x = none) (hs : ∃ s ∈ fr, Rch adj s x)
    (hg : ((w.setCell ⟨gm, x, none⟩ (.bool true)).alloc (.cells #[.int .i64 (x : Int)] 3)).grownBy w3 vr.ownBlock) (hr : w3.ownsRow w0.heap.size 3 1 vr' (row.length + 1) (nats row ++ [.int .i64 (x : Int)])) :
    RcW gm cm N adj fr bx w0 w3 vr' (upd met x (some ())) (row ++ [x]) := by
  obtain ⟨hm1, hm2, cs, hH⟩ := own_holds h.met
  have hst := (h.met.stored x (.bool true)).1
  rw [metB_put met hx] at hst
  have hrow1 := own_put (i := x) (u := .bool true) h.row hH (by decide)
  have hbox1 := h.box.far (p := ⟨gm, x, none⟩) (h.box.ne_of_type hH (by decide)) (.bool true)
  have hbe1 := h.below.setCell (p := ⟨gm, x, none⟩) hm1 (.bool true)
  have hst2 := hst.alloc (.cells #[.int .i64 (x : Int)] 3)
  have hrow2 := hrow1.alloc (.cells #[.int .i64 (x : Int)] 3)
  have hbox2 := hbox1.alloc (.cells #[.int .i64 (x : Int)] 3)
  have hbe2 := hbe1.alloc hbe1.size (.cells #[.int .i64 (x : Int)] 3)
  refine ⟨h.inv.add hx hm hs, hst2.kept hg (own_pair hst2 hrow2 (by decide)), ?_, below_own hbe2 hrow2 hg, own_kept hrow2 hg hbox2 (by decide)⟩
  rw [List.length_append, List.length_singleton, ← nats_snoc]
  exact hr

set_option maxHeartbeats 4000000 in
set_option maxRecDepth 100000 in
theorem reachFn (adj : Adj) (N : Nat) (vT vS vf : Value) (fr : List Nat) (w : World) (hT : GraphTo w.heap.size w vT adj N) (hN : N ≤ 33554432) (hadj : ∀ p, p < N → ∀ e ∈ adj p, e.1 < N) (hal : ∀ p, p < N → (adj p).length ≤ 131072)
    (hf : RowI w.heap.size w vf (fr.map fun (x : Nat) => (x : Int))) (hfr : ∀ s ∈ fr, s < N) (hfl : fr.length ≤ 131072) :
    Calls Tryd.prog 23 #[.agg #[vT, vS], vf] w fun e w' => ∃ v met, e = .returned v ∧ w'.ownsRow w.heap.size 4 1 v N (metB met N) ∧ (∀ x, x < N → ((met x).isSome = true ↔ ∃ s ∈ fr, Rch adj s x)) ∧ Below w.heap.size w w' := by
  obtain ⟨aT, cT, rfl, hcT, hmT⟩ := hT.form
  obtain ⟨aF, cF, rfl, hcF, hmF⟩ := hf.form
  rw [List.length_map, List.length_range] at hcT
  rw [List.length_map] at hcF
  have hl1 : ((List.range N).map fun x => (adj x).map fun e => (e.1 : Int)).length = N := by simp
  have hl2 : (fr.map fun (x : Nat) => (x : Int)).length = fr.length := by simp
  rw [hl1] at hT ⊢
  rw [hl2] at hf ⊢
  obtain ⟨fl, hfle⟩ : ∃ fl, fr.length = fl := ⟨_, rfl⟩
  rw [hfle] at hcF hf hfl ⊢
  have HT := Lib.hid hT
  have HF := Lib.hid hf
  have HFL := Lib.hid hfle
  have HFR := Lib.hid hfr
  have HADJ := Lib.hid hadj
  have HAL := Lib.hid hal
  have hB0 : Below w.heap.size w (w.alloc (.cells #[.slice aT N cT, vS] 59)) := (Below.refl _ _).alloc (Nat.le_refl _) _
  have hG0 := Holds.new w 59 #[.slice aT N cT, vS]
  clear hT hf hfle hfr hadj hal hl1 hl2
  obtain ⟨i0, hi0, hz0, hz1, hz2⟩ := info_parts Tryd.info4
  go_enter Tryd.func23, Tryd.ntmps23
  go_wp2_with (at_make; refine wpList_make_full _ rfl (.tmp 13) (.tmp 13) 61 rfl w.heap.size 4 i0 (.bool false) 1 Tryd.underlying61 hi0 hz0 hz1 .i64 .i64 _ _ N rfl rfl rfl rfl ?b1 ?b2 ?b3 ?_)
  case b1 => omega
  case b2 => unfold maxLen; omega
  intro w1 hown hg
  have hm0 : (madeCells #[Value.bool false] N).toList = metB (fun _ => none) N := by
    rw [toList_madeCells_one]
    apply List.ext_getElem?
    intro j
    by_cases hj : j < N
    · rw [metB_at _ hj]; simp [hj]
    · rw [List.getElem?_eq_none (by simp; omega), List.getElem?_eq_none (by rw [metB_len]; omega)]
  rw [hm0] at hown
  have hR0 : RcW (w.heap.size + 1) N N adj fr [.slice aT N cT, vS] w w1 (.slice none 0 0) (fun _ => none) [] :=
    ⟨RInv.start, hown, ⟨rfl, .inl ⟨rfl, rfl⟩⟩, hB0.grown hg (by simp) (fun k e => by cases e), hG0.of_eq (hg.block _ hG0.lt (by simp))⟩
  clear hown hg hm0 hB0 hG0
  have hN9 : N ≤ 9223372036854775807 := by omega
  go_wp2
  go_loopw [6, 7] (fun r y wr => ∃ (j : Nat) (met : Nat → Option Unit) (row : List Nat), y = .int .i64 (j : Int) ∧ j ≤ fl ∧ RcW (w.heap.size + 1) N N adj fr [.slice aT N cT, vS] w wr r met row ∧ Hid (∀ s ∈ fr.take j, s ∈ row)) (fun _ y _ => (fl + 10 - intOf y).toNat)
  case atStart => exact ⟨0, _, _, rfl, Nat.zero_le _, hR0, (fun s hs => by simp at hs)⟩
  case round =>
    clear hR0
    obtain ⟨j, met, row, rfl, hj, hR, HJ⟩ := hrel
    by_cases hjf : j < fl
    · have hjf' : (j : Int) < (fl : Int) := by omega
      obtain ⟨s, hsq⟩ : ∃ s, fr[j]? = some s := ⟨_, List.getElem?_eq_getElem (by rw [HFL.out]; exact hjf)⟩
      have hsm := List.mem_of_getElem? hsq
      have hsN := HFR.out s hsm
      obtain ⟨gF, oF, rfl, hgF, hcF1⟩ := (HF.out.below hR.below).at (k := j) (by rw [List.length_map, HFL.out]; exact hjf)
      have hsx : (fr.map fun (x : Nat) => (x : Int))[j]'(by rw [List.length_map, HFL.out]; exact hjf) = (s : Int) := by
        have := (List.getElem?_eq_some_iff.1 hsq).2
        simp [this]
      rw [hsx] at hcF1
      have hmc := own_cell hR.met (j := s) (by omega)
      rw [metB_at met hsN] at hmc
      have hta := take_at hsq
      have HTA := Lib.hid hta
      obtain ⟨avr, cvr, hvr, _, hcv⟩ := owns_form hR.row
      have hsN' : (s : Int) < (N : Int) := by omega
      have hfew := hR.inv.few
      clear hta hsx
      cases hms : met s with
      | some u =>
        have hsr : s ∈ row := (hR.inv.mem s hsN).1 (by rw [hms]; rfl)
        have HJ' : Hid (∀ z ∈ fr.take (j + 1), z ∈ row) := fun z hz => by
          rw [HTA.out] at hz
          rcases List.mem_append.1 hz with hz | hz
          · exact HJ.out z hz
          · rw [List.mem_singleton.1 hz]; exact hsr
        rw [hms] at hmc
        have hmc2 : wr.cell? ⟨w.heap.size + 1, s, none⟩ = some (.bool true) := hmc
        clear hmc hms hvr
        go_wp2
        exact ⟨⟨j + 1, met, row, rfl, by omega, hR, HJ'⟩, by simp [intOf]; omega⟩
      | none =>
        rw [hms] at hmc
        have hmc2 : wr.cell? ⟨w.heap.size + 1, s, none⟩ = some (.bool false) := hmc
        obtain ⟨hm1, hm2, csm, hH⟩ := own_holds hR.met
        have hfz := hH.free s
        have hne1 : gF ≠ w.heap.size + 1 := by omega
        have hne2 : w.heap.size + 1 ≠ gF := by omega
        have hrowA := (own_put (i := s) (u := .bool true) hR.row hH (by decide)).alloc (.cells #[.int .i64 (s : Int)] 3)
        have hbe1 := (hR.below.setCell (p := ⟨w.heap.size + 1, s, none⟩) hm1 (.bool true))
        have hbsz := (hbe1.alloc hbe1.size (.cells #[.int .i64 (s : Int)] 3)).size
        obtain ⟨i3, hi3, hy0, hy1, hy2⟩ := info_parts Tryd.info3
        have HMS := Lib.hid hms
        have HMC := Lib.hid hmc
        clear hvr hms hmc hH hbe1
        go_wp2_with (at_builtin; refine wpList_append_own_at _ rfl (.tmp 35) (.tmp 40) _ rfl w.heap.size 3 i3 _ 1 8 Tryd.underlying22 hi3 hy0 hy1 hy2 rfl (by omega) u6 row.length (nats row) rfl hrowA ⟨wr.heap.size, 0, none⟩ 1 1 [.int .i64 (s : Int)] rfl rfl ?c1 ?c2 ?c3 ?c4 ?c5 ?_)
        case c1 => exact cells_of_new _ _ (by simp [World.setCell]) [.int .i64 (s : Int)] 3
        case c2 => simp [Value.oneCell']
        case c3 => unfold maxLen; omega
        case c4 => omega
        case c5 => exact hbsz
        intro v' w5 hS g5 _ _
        have hR' := hR.put hsN HMS.out ⟨s, hsm, Rch.refl⟩ g5 hS
        have HJ' : Hid (∀ z ∈ fr.take (j + 1), z ∈ row ++ [s]) := fun z hz => by
          rw [HTA.out] at hz
          rcases List.mem_append.1 hz with hz | hz
          · exact List.mem_append.2 (.inl (HJ.out z hz))
          · exact List.mem_append.2 (.inr hz)
        clear hR hS g5 hrowA hbsz hfz hmc2 hcF1
        go_wp2
        exact ⟨⟨j + 1, upd met s (some ()), row ++ [s], rfl, by omega, hR', HJ'⟩, by simp [intOf]; omega⟩
    · have hjf' : decide ((j : Int) < (fl : Int)) = false := decide_eq_false (by omega)
      have HJ' : Hid (∀ s ∈ fr, s ∈ row) := fun s hs => HJ.out s (by rw [List.take_of_length_le (by rw [HFL.out]; omega)]; exact hs)
      clear HJ
      go_wp2
      go_loopw [6, 8] (fun r y wr => ∃ (i : Nat) (met : Nat → Option Unit) (row : List Nat), y = .int .i64 (i : Int) ∧ i ≤ row.length ∧ RcW (w.heap.size + 1) N N adj fr [.slice aT N cT, vS] w wr r met row ∧ Hid (∀ s ∈ fr, s ∈ row) ∧ Hid (∀ x ∈ row.take i, ∀ e ∈ adj x, e.1 ∈ row)) (fun _ y _ => (N + 10 - intOf y).toNat)
      case atStart => exact ⟨0, met, row, rfl, Nat.zero_le _, hR, HJ', (fun x hx => by simp at hx)⟩
      case round =>
        clear hR HJ'
        obtain ⟨i, met, row, rfl, hi, hR, HJ, HK⟩ := hrel
        obtain ⟨avr, cvr, hvr, hcv0, hcv⟩ := owns_form hR.row
        obtain ⟨rl, hrl⟩ : ∃ rl, row.length = rl := ⟨_, rfl⟩
        have hfew := hR.inv.few
        rw [hrl] at hvr hcv0 hi hfew
        have HRL := Lib.hid hrl
        unfold maxLen at hcv
        by_cases hil : i < rl
        · have hil' : (i : Int) < (rl : Int) := by omega
          obtain ⟨x, hxq⟩ : ∃ x, row[i]? = some x := ⟨_, List.getElem?_eq_getElem (by omega)⟩
          have hxm := List.mem_of_getElem? hxq
          have hxN := hR.inv.lt x hxm
          have hxN' : (x : Int) < (N : Int) := by omega
          subst hvr
          obtain ⟨gr, hgr, _, _, _, _, hcr, _⟩ := owns_head (by have := hR.row; rw [hrl] at this; exact this) (by omega)
          subst hgr
          have hxc : wr.cell? ⟨gr, i, none⟩ = some (.int .i64 (x : Int)) := by
            rw [hcr i (by omega)]; unfold nats; rw [List.getElem?_map, hxq]; rfl
          obtain ⟨gT, oT, uT, rfl, hgT, hcT0, huT⟩ := HT.out.at (k := x) (by simp; exact hxN)
          have hcT1 := (cell_below hR.below hgT _).trans hcT0
          have hux : ((List.range N).map fun x => (adj x).map fun e => (e.1 : Int))[x]'(by simp; exact hxN) = (adj x).map fun e => (e.1 : Int) := by simp
          rw [hux] at huT
          obtain ⟨aU, cU, rfl, hcU1, hcU2⟩ := huT.form
          rw [List.length_map] at hcU1
          have hlm : ((adj x).map fun e => (e.1 : Int)).length = (adj x).length := by simp
          rw [hlm] at huT hcT1
          obtain ⟨al, hal⟩ : ∃ al, (adj x).length = al := ⟨_, rfl⟩
          have hal2 : al ≤ 131072 := by rw [← hal]; exact HAL.out x hxN
          rw [hal] at hcU1 huT hcT1
          have HUT := Lib.hid huT
          have HALX := Lib.hid hal
          have HXQ := Lib.hid hxq
          have hb0 := hR.box.cell 0
          simp only [List.getElem?_cons_zero] at hb0
          clear hrl hcr hcT0 hux hlm hal huT
          go_wp2
          go_quiet (fail)
          go_wp2
          go_loopw [6, 10] (fun r z wr2 => ∃ (k : Nat) (met2 : Nat → Option Unit) (row2 : List Nat), z = .int .i64 (k : Int) ∧ k ≤ al ∧ RcW (w.heap.size + 1) N N adj fr [.slice (some ⟨gT, oT, none⟩) N cT, vS] w wr2 r met2 row2 ∧ Hid (∃ ext, row2 = row ++ ext) ∧ Hid (∀ e ∈ (adj x).take k, e.1 ∈ row2)) (fun _ z _ => (al + 10 - intOf z).toNat)
          case atStart => exact ⟨0, met, row, rfl, Nat.zero_le _, hR.drewN _, ⟨[], by simp⟩, (fun e he => by simp at he)⟩
          case round =>
            clear hR hxc hcT1 hb0
            obtain ⟨k, met2, row2, rfl, hk, hR, HE, HS⟩ := hrel
            by_cases hka : k < al
            · have hka' : (k : Int) < (al : Int) := by omega
              obtain ⟨e, heq⟩ : ∃ e, (adj x)[k]? = some e := ⟨_, List.getElem?_eq_getElem (by rw [HALX.out]; exact hka)⟩
              have hem := List.mem_of_getElem? heq
              obtain ⟨s, e2⟩ := e
              have hsN : s < N := HADJ.out x hxN _ hem
              obtain ⟨gU, oU, rfl, hgU, hcU⟩ := (HUT.out.below hR.below).at (k := k) (by rw [List.length_map, HALX.out]; exact hka)
              have hsx : ((adj x).map fun e => (e.1 : Int))[k]'(by rw [List.length_map, HALX.out]; exact hka) = (s : Int) := by
                have := (List.getElem?_eq_some_iff.1 heq).2
                simp [this]
              rw [hsx] at hcU
              have hmc := own_cell hR.met (j := s) (by omega)
              rw [metB_at met2 hsN] at hmc
              have hta := take_at heq
              have HTA := Lib.hid hta
              have hsN' : (s : Int) < (N : Int) := by omega
              have hfew2 := hR.inv.few
              obtain ⟨ext, hext⟩ := HE.out
              have hxm2 : x ∈ row2 := by rw [hext]; exact List.mem_append.2 (.inl hxm)
              have hsrc : ∃ s0 ∈ fr, Rch adj s0 s := by
                obtain ⟨s0, h0, h1⟩ := hR.inv.src x hxm2
                exact ⟨s0, h0, h1.tail hem⟩
              have HSRC := Lib.hid hsrc
              have HEX := Lib.hid hext
              clear hta hsx hext hsrc
              cases hms : met2 s with
              | some u =>
                have hsr : s ∈ row2 := (hR.inv.mem s hsN).1 (by rw [hms]; rfl)
                have HS' : Hid (∀ e ∈ (adj x).take (k + 1), e.1 ∈ row2) := fun z hz => by
                  rw [HTA.out] at hz
                  rcases List.mem_append.1 hz with hz | hz
                  · exact HS.out z hz
                  · rw [List.mem_singleton.1 hz]; exact hsr
                rw [hms] at hmc
                have hmc2 : wr.cell? ⟨w.heap.size + 1, s, none⟩ = some (.bool true) := hmc
                clear hmc hms
                go_wp2
                exact ⟨⟨k + 1, met2, row2, rfl, by omega, hR, HE, HS'⟩, by simp [intOf]; omega⟩
              | none =>
                rw [hms] at hmc
                have hmc2 : wr.cell? ⟨w.heap.size + 1, s, none⟩ = some (.bool false) := hmc
                obtain ⟨hm1, hm2, csm, hH⟩ := own_holds hR.met
                have hfz := hH.free s
                have hne1 : gU ≠ w.heap.size + 1 := by omega
                have hne2 : w.heap.size + 1 ≠ gU := by omega
                have hrowA := (own_put (i := s) (u := .bool true) hR.row hH (by decide)).alloc (.cells #[.int .i64 (s : Int)] 3)
                have hbe1 := (hR.below.setCell (p := ⟨w.heap.size + 1, s, none⟩) hm1 (.bool true))
                have hbsz := (hbe1.alloc hbe1.size (.cells #[.int .i64 (s : Int)] 3)).size
                obtain ⟨i3, hi3, hy0, hy1, hy2⟩ := info_parts Tryd.info3
                have HMS := Lib.hid hms
                clear hms hmc hH hbe1
                go_wp2_with (at_builtin; refine wpList_append_own_at _ rfl (.tmp 76) (.tmp 81) _ rfl w.heap.size 3 i3 _ 1 8 Tryd.underlying22 hi3 hy0 hy1 hy2 rfl (by omega) u6 row2.length (nats row2) rfl hrowA ⟨wr.heap.size, 0, none⟩ 1 1 [.int .i64 (s : Int)] rfl rfl ?c1 ?c2 ?c3 ?c4 ?c5 ?_)
                case c1 => exact cells_of_new _ _ (by simp [World.setCell]) [.int .i64 (s : Int)] 3
                case c2 => simp [Value.oneCell']
                case c3 => unfold maxLen; omega
                case c4 => omega
                case c5 => exact hbsz
                intro v' w5 hS5 g5 _ _
                have hR' := hR.put hsN HMS.out HSRC.out g5 hS5
                have HE' : Hid (∃ ext, row2 ++ [s] = row ++ ext) := ⟨ext ++ [s], by rw [HEX.out, List.append_assoc]⟩
                have HS' : Hid (∀ e ∈ (adj x).take (k + 1), e.1 ∈ row2 ++ [s]) := fun z hz => by
                  rw [HTA.out] at hz
                  rcases List.mem_append.1 hz with hz | hz
                  · exact List.mem_append.2 (.inl (HS.out z hz))
                  · rw [List.mem_singleton.1 hz]; exact List.mem_append.2 (.inr (List.mem_singleton.2 rfl))
                clear hR hS5 g5 hrowA hbsz hfz hmc2 hcU
                go_wp2
                exact ⟨⟨k + 1, upd met2 s (some ()), row2 ++ [s], rfl, by omega, hR', HE', HS'⟩, by simp [intOf]; omega⟩
            · have hka' : decide ((k : Int) < (al : Int)) = false := decide_eq_false (by omega)
              obtain ⟨ext, hext⟩ := HE.out
              have HJ2 : Hid (∀ s ∈ fr, s ∈ row2) := fun s hs => by rw [hext]; exact List.mem_append.2 (.inl (HJ.out s hs))
              have HK2 : Hid (∀ z ∈ row2.take (i + 1), ∀ e ∈ adj z, e.1 ∈ row2) := fun z hz e he => by
                have htk : row2.take (i + 1) = row.take i ++ [x] := by
                  rw [hext, List.take_append_of_le_length (by rw [HRL.out]; omega), take_at HXQ.out]
                rw [htk] at hz
                rcases List.mem_append.1 hz with hz | hz
                · rw [hext]; exact List.mem_append.2 (.inl (HK.out z hz e he))
                · rw [List.mem_singleton.1 hz] at he
                  exact HS.out e (by rw [List.take_of_length_le (by rw [HALX.out]; omega)]; exact he)
              have hlen2 : i + 1 ≤ row2.length := by rw [hext, List.length_append, HRL.out]; omega
              clear hext
              go_wp2
              exact ⟨⟨i + 1, met2, row2, rfl, hlen2, hR, HJ2, HK2⟩, by simp [intOf]; omega⟩
        · have hil' : decide ((i : Int) < (rl : Int)) = false := decide_eq_false (by omega)
          have hov : ∀ x, x < N → ((met x).isSome = true ↔ ∃ s ∈ fr, Rch adj s x) := fun x hx =>
            hR.inv.over HJ.out (fun y hy e he => HK.out y (by rw [List.take_of_length_le (by omega)]; exact hy) e he) hx
          have HOV := Lib.hid hov
          subst hvr
          clear hov
          go_wp2
          go_ret
          exact ⟨_, met, rfl, hR.met, HOV.out, hR.below⟩
end Go.Proofs.YtelanndleinabaaDoor
