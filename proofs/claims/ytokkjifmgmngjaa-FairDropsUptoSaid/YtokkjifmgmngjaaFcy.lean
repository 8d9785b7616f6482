/- The walk of sextantref16.Cycle. -/
import Derived.Test.YtokkjifmgmngjaaFre
namespace Go.Proofs.Ytokkjifmgmngjaa.G
open Go.RowKit Go.Maps
set_option linter.unusedVariables false
set_option linter.unusedSimpArgs false

def cycAt (N : PNet) (i : Nat) : Bool := (reachP N 0 0).getD i false && ((N[i]?).getD zeroN).acc && (reachP N i 1).getD i false
def cycleP (N : PNet) : Bool := (List.range N.length).any (cycAt N)
theorem bools_at {l : List Bool} {i : Nat} (h : i < l.length) : (bools l)[i]? = some (.bool (l.getD i false)) := by
  simp [bools, h]
set_option maxHeartbeats 4000000 in
set_option maxRecDepth 100000 in
theorem cycleFn {P : Nat → Prop} {w : World} {v : Value} {N : PNet} (hv : NetV P w v N) (hs : Small N) (hf : FitN N) (h0 : 0 < N.length) : Calls Try.prog 17 #[.agg #[v]] w (BoolB (cycleP N) w) := by
  have hv := hv.mono (Q := fun q => q < w.heap.size) (fun q _ hq => hq)
  have HV := Lib.hid hv
  obtain ⟨f, hrn, hgn⟩ := hv
  obtain ⟨aN, cN, rfl, hcN, _, _⟩ := hrn.form
  obtain ⟨M, hM⟩ : ∃ M, N.length = M := ⟨_, rfl⟩
  have HN := Lib.hid hM
  have HRN := Lib.hid hrn
  have HGN := Lib.hid hgn
  have HSM := Lib.hid hs
  have HFT := Lib.hid hf
  have hM2 : M ≤ 2000000 := by rw [← hM]; exact hs.nodes
  rw [hM] at h0 hcN HV ⊢
  obtain ⟨w1, hw1⟩ : ∃ W, W = w.alloc (.cells #[.slice aN M cN] 24) := ⟨_, rfl⟩
  have hB1 : Below w.heap.size w w1 := by rw [hw1]; exact (Below.refl _ _).alloc (Nat.le_refl _) _
  have hG1 : Holds w1 w.heap.size 24 [.slice aN M cN] := by rw [hw1]; exact Holds.new w 24 #[.slice aN M cN]
  have HRE := Lib.hid (reachFn (frm := 0) (least := 0) (HV.out.up (Keep.below hB1)) HSM.out HFT.out (by rw [HN.out]; exact h0) (by omega))
  have hb0 := hG1.cell 0
  simp only [List.getElem?_cons_zero] at hb0
  have HB1 := Lib.hid hB1
  have HG1 := Lib.hid hG1
  clear hrn hgn hs hf hB1 hG1
  go_enter Try.func17, Try.ntmps17
  go_wp2_with (fail)
  rw [← hw1]
  refine HRE.out.mono ?_
  rintro e w2 ⟨hb2, g, c, rfl, hown, hlen⟩
  rw [HN.out] at hown hlen
  have HOW := Lib.hid hown
  have HLE := Lib.hid hlen
  have HG2 := Lib.hid (HG1.out.belowAll hb2)
  have HB2 : Hid (Below w.heap.size w w2) := HB1.out.trans (hb2.mono HB1.out.size)
  clear hown hlen hb2 hb0 HRE HB1 HG1 hw1
  rw [HN.out]
  go_wp2
  go_loopw [4] (fun y wr => ∃ i : Nat, y = .int .i64 (i : Int) ∧ i ≤ M ∧ Hid (Below w2.heap.size w2 wr) ∧ Hid (∀ j, j < i → cycAt N j = false)) (fun y _ => (M + 10 - intOf y).toNat)
  case atStart => exact ⟨0, rfl, Nat.zero_le _, Below.refl _ _, fun j hj => absurd hj (by omega)⟩
  case round =>
    obtain ⟨i, rfl, hi, HBR, HNO⟩ := hrel
    have hb0 := (HG2.out.belowAll HBR.out).cell 0
    simp only [List.getElem?_cons_zero] at hb0
    by_cases hin : i < M
    · have hi1 : (i : Int) < (M : Int) := by omega
      have hi0 : (0 : Int) ≤ (i : Int) := by omega
      have hwj : IntKind.i64.wrap ((i : Int) + 1) = (i : Int) + 1 := by rw [IntKind.wrap_i64]; omega
      have hwi : IntKind.i64.wrap (i : Int) = (i : Int) := by rw [IntKind.wrap_i64]; omega
      have hmc := own_cell (owns_below HOW.out HBR.out) (j := i) (by omega)
      rw [bools_at (by rw [HLE.out]; exact hin)] at hmc
      have hkeep : Keep (fun q => q < w.heap.size) w wr := fun q hq _ => (HBR.out.block q (Nat.lt_of_lt_of_le hq HB2.out.size)).trans (HB2.out.block q hq)
      obtain ⟨gb, ob, cb, cc, he1, hGn, hr1⟩ := (HRN.out.up hkeep).atN oneNode (LsF.up (fun _ _ => oneNode.up hkeep) _ HGN.out) (i := i) (by rw [HN.out]; exact hin)
      rw [HN.out] at he1
      have HVR := Lib.hid (HV.out.up hkeep)
      injection he1 with he1 _ he1'
      subst he1 he1'
      obtain ⟨nd, hnd⟩ : ∃ nd, N[i]'(by rw [HN.out]; exact hin) = nd := ⟨_, rfl⟩
      rw [hnd] at hGn
      have hne : ((N[i]?).getD zeroN).acc = nd.acc := by rw [List.getElem?_eq_getElem (by rw [HN.out]; exact hin), hnd]; rfl
      obtain ⟨va, rfl, _⟩ := hGn
      have f4 : wr.cell? ⟨gb, ob + i * 5 + 4, none⟩ = some (.bool nd.acc) := hr1 4 _ rfl
      obtain ⟨b1, hb1⟩ : ∃ b, (reachP N 0 0).getD i false = b := ⟨_, rfl⟩
      obtain ⟨b2, hb2⟩ : ∃ b, nd.acc = b := ⟨_, rfl⟩
      obtain ⟨b3, hb3⟩ : ∃ b, (reachP N i 1).getD i false = b := ⟨_, rfl⟩
      have HCA : Hid (cycAt N i = (b1 && b2 && b3)) := by show _ = _; unfold cycAt; rw [hb1, hne, hb2, hb3]
      have HB3 := Lib.hid hb3
      rw [hb1] at hmc
      rw [hb2] at f4
      have HRE := Lib.hid (reachFn (frm := i) (least := 1) HVR.out HSM.out HFT.out (by rw [HN.out]; exact hin) (by omega))
      have HNX : cycAt N i = false → Hid (∀ j, j < i + 1 → cycAt N j = false) := fun h j hj => by
        rcases Nat.lt_or_ge j i with q | q
        · exact HNO.out j q
        · rw [show j = i by omega]; exact h
      clear hb1 hb2 hb3 hne hnd hr1 hkeep
      cases b1 with
      | false =>
        have HN2 := HNX (by rw [HCA.out]; rfl)
        clear HNX
        go_wp2
        exact ⟨⟨i + 1, rfl, by omega, HBR, HN2⟩, by simp [intOf]; omega⟩
      | true =>
        cases b2 with
        | false =>
          have HN2 := HNX (by rw [HCA.out]; rfl)
          clear HNX
          go_wp2
          exact ⟨⟨i + 1, rfl, by omega, HBR, HN2⟩, by simp [intOf]; omega⟩
        | true =>
          have HNH := Lib.hid HNX
          clear HNX
          go_wp2_with (fail)
          refine HRE.out.mono ?_
          rintro e w4 ⟨hb4, g4, c4, rfl, hown4, hlen4⟩
          rw [HN.out] at hown4 hlen4
          rw [HN.out]
          have hm4 := own_cell hown4 (j := i) (by omega)
          rw [bools_at (by rw [hlen4]; exact hin), HB3.out] at hm4
          have HB4 := Lib.hid (HBR.out.trans (hb4.mono HBR.out.size))
          clear hown4 hlen4 hb4 hmc f4 hb0 HRE
          cases b3 with
          | false =>
            have HN2 := HNH.out (by rw [HCA.out]; rfl)
            go_wp2
            exact ⟨⟨i + 1, rfl, by omega, HB4, HN2⟩, by simp [intOf]; omega⟩
          | true =>
            have HY : Hid (cycleP N = true) := by
              show _ = _
              unfold cycleP
              rw [List.any_eq_true]
              exact ⟨i, by rw [List.mem_range, HN.out]; exact hin, by rw [HCA.out]; rfl⟩
            go_wp2
            go_ret
            exact ⟨by rw [HY.out]; rfl, HB2.out.trans (HB4.out.mono HB2.out.size)⟩
    · have hi1 : decide ((i : Int) < (M : Int)) = false := decide_eq_false (by omega)
      have HY : Hid (cycleP N = false) := by
        show _ = _
        unfold cycleP
        rw [List.any_eq_false]
        intro j hj
        rw [List.mem_range, HN.out] at hj
        rw [HNO.out j (by omega)]
        exact Bool.false_ne_true
      go_wp2
      go_ret
      exact ⟨by rw [HY.out]; rfl, HB2.out.trans (HBR.out.mono HB2.out.size)⟩
end Go.Proofs.Ytokkjifmgmngjaa.G
