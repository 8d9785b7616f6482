/- The walks of the statements' pick and moves. -/
import Derived.Test.YtcedenoicmpjmaaAlw
namespace Go.Proofs.Ytcedenoicmpjmaa
open Go.RowKit Go.Maps
set_option linter.unusedVariables false
set_option linter.unusedSimpArgs false

set_option maxRecDepth 100000 in
theorem pickFn (c : Int) (h : -9223372036854775808 ≤ c ∧ c ≤ 9223372036854775807) (w : World) : Calls Try.prog 32 #[.int .i64 c, .int .i64 4] w (fun e w' => (∃ r : Nat, r < 4 ∧ e = .returned (.int .i64 (r : Int))) ∧ w' = w) := by
  have HH := Lib.hid h
  by_cases hc : c < 0
  · have hw1 : IntKind.i64.wrap (c + 1) = c + 1 := by rw [IntKind.wrap_i64]; omega
    have hw2 : IntKind.i64.wrap (-(c + 1)) = -(c + 1) := by rw [IntKind.wrap_i64]; omega
    clear h
    go_enter Try.func32, Try.ntmps32
    go_wp2
    have hm : (-(c + 1)).tmod 4 = (-(c + 1)) % 4 := Int.tmod_eq_emod_of_nonneg (by omega)
    have hm2 : -(c + 1).tmod 4 = (-(c + 1)) % 4 := by rw [← hm, Int.neg_tmod]
    go_ret
    have h0 : (((-(c + 1)) % 4).toNat : Int) = (-(c + 1)) % 4 := Int.toNat_of_nonneg (by omega)
    exact ⟨⟨((-(c + 1)) % 4).toNat, by omega, by rw [hm2, h0]; rfl⟩, rfl⟩
  · clear h
    go_enter Try.func32, Try.ntmps32
    go_wp2
    go_ret
    have h0 : ((c % 4).toNat : Int) = c % 4 := Int.toNat_of_nonneg (by omega)
    exact ⟨⟨(c % 4).toNat, by omega, by rw [h0]; rfl⟩, rfl⟩
theorem nodeOf_rows2 {N : PNet} (hs : Small N) {s : Bs} {a : PArc} (ha : a ∈ ((nodeOf N s).getD zeroN).arcs) : a.reads.length ≤ 2000000 ∧ a.writes.length ≤ 2000000 := by
  obtain ⟨k, hk, rfl⟩ := List.getElem_of_mem ha
  exact nodeOf_rows hs hk
theorem ls_len {A : Type} {F : (Nat → Prop) → World → A → List Value → Prop} {n : Nat} (H : One F n) {P : Nat → Prop} {w : World} : ∀ {l : List A} {f : List Value}, LsF F P w l f → f.length = l.length * n
  | [], f, h => by obtain rfl := h; simp
  | a :: l, f, ⟨c, r, h1, h2, h3⟩ => by
    have := ls_len H h3
    rw [h1, List.length_append, H.len h2, this, List.length_cons, Nat.succ_mul]
    omega
theorem row_cell {w : World} {lo k i j : Nat} {vo : Value} {fo : List Value} (h : w.ownsRow lo 79 9 vo k fo) (hi : i < k) (hj : j < 9) : ∃ g cap cs, vo = .slice (some ⟨g, 0, none⟩) k cap ∧ Holds w g 79 cs ∧ cs[i * 9 + j]? = fo[i * 9 + j]? := by
  have hlen := h.1
  rcases h.2 with ⟨_, h0⟩ | ⟨g, cap, cur, rfl, hb, hg, hnc, hcm, hcs, ht⟩
  · omega
  · have hH : Holds w g 79 cur.toList := by unfold Holds; simpa using hg
    have hm : i * 9 + j < k * 9 := by omega
    exact ⟨g, cap, cur.toList, rfl, hH, by rw [← ht, List.getElem?_take_of_lt hm]⟩
set_option maxHeartbeats 4000000 in
set_option maxRecDepth 100000 in
theorem movesLaw {P P' : Nat → Prop} {w : World} {N : PNet} {v vw : Value} {s : ByteArray} {c : Int} (hv : NetV P w v N) (hs : s.size ≤ 1048576) (hsm : Small N) (hto : ∀ x ∈ N, ∀ a ∈ x.arcs, 0 ≤ a.to ∧ a.to < 9223372036854775808) (hw : MovesV P' w vw ((nodeOf N s.data.toList).getD zeroN).arcs) (hc : -9223372036854775808 ≤ c ∧ c ≤ 9223372036854775807) :
    Calls Try.prog 13 #[.iface 69 (.agg #[v]), .string s, vw, .int .i64 c] w (Yes w) := by
  have hv := hv.mono (Q := fun k => k < w.heap.size) (fun k _ hk => hk)
  obtain ⟨fw, hw1, hw2⟩ := hw
  have HW : Hid (MovesV (fun k => k < w.heap.size) w vw ((nodeOf N s.data.toList).getD zeroN).arcs) := ⟨fw, hw1.mono (fun k _ hk => hk), LsF.mono (fun _ _ => MovF.mono fun k _ hk => hk) _ hw2⟩
  obtain ⟨aw, cw, rfl, _, _, _⟩ := hw1.form
  have hsmall := fun a ha => nodeOf_rows2 hsm (s := s.data.toList) (a := a) ha
  have hL := nodeOf_small hsm s.data.toList
  obtain ⟨l, hl⟩ : ∃ l, ((nodeOf N s.data.toList).getD zeroN).arcs = l := ⟨_, rfl⟩
  rw [hl] at HW hL hsmall ⊢
  have HLL := Lib.hid hl
  have HV := Lib.hid hv
  have HSM := Lib.hid hsmall
  obtain ⟨L, hLe⟩ : ∃ L, l.length = L := ⟨_, rfl⟩
  have HLE := Lib.hid hLe
  have HP := Lib.hid (pickFn c hc w)
  have HA1 : Hid (∀ r : Nat, r < 4 → Calls Try.prog 31 #[.iface 69 (.agg #[v]), .string s, .int .i64 (r : Int)] w (AllPost l r w)) := fun r hr => by
    have h3 := allFn (most := r) hv hs hsm hto (by omega)
    rw [hl] at h3
    exact h3
  rw [hLe] at hL ⊢
  clear hv hw1 hw2 hsmall hl hLe hc
  go_enter Try.func13, Try.ntmps13
  go_wp2_with (fail)
  refine HP.out.mono ?_
  rintro e w1 ⟨⟨r, hr4, rfl⟩, rfl⟩
  go_wp2_with (fail)
  refine (HA1.out r hr4).mono ?_
  rintro e w3 ⟨hb3, vo, k, fo, lo, rfl, hk1, hk2, hk3, hlo, hown, hls⟩
  obtain ⟨ao, co, rfl, hco, _⟩ := owns_form hown
  have HOW := Lib.hid hown
  have HLS := Lib.hid hls
  have HB3 := Lib.hid hb3
  have hk4 : k < 4 := by omega
  clear hk1 hk2 hk3 hown hls hb3 HP HA1
  go_wp2_with (fail)
  go_loopw [10] (fun x wr => ∃ i : Nat, x = .int .i64 (i : Int) ∧ i ≤ k ∧ Hid (Sp (From w1.heap.size) w3 wr)) (fun x _ => k - (intOf x).toNat)
  case atStart => exact ⟨0, rfl, Nat.zero_le _, Sp.refl _ _⟩
  case round =>
    obtain ⟨i, hx, hi, HSP⟩ := hrel
    subst hx
    by_cases hik : i < k
    · have hi2 : (i : Int) < (k : Int) := by omega
      have hi0 : (0 : Int) ≤ (i : Int) := by omega
      have hwi : IntKind.i64.wrap (i : Int) = (i : Int) := by rw [IntKind.wrap_i64]; omega
      have hwi1 : IntKind.i64.wrap ((i : Int) + 1) = (i : Int) + 1 := by rw [IntKind.wrap_i64]; omega
      have hzl : i < (l.zipIdx.take k).length := by
        have h3 := HOW.out.1
        have h4 := ls_len oneMovG HLS.out
        omega
      obtain ⟨cc, hG, hat⟩ := LsF.at (fun a c => oneMovG.len) hzl HLS.out
      obtain ⟨vr, vw2, rfl, ⟨z1, si1⟩, z2, si2⟩ := hG
      obtain ⟨g, cap, cs, hvo, hH, h6⟩ := row_cell (i := i) (j := 6) HOW.out hik (by omega)
      obtain ⟨g', cap', cs', hvo', hH', h7⟩ := row_cell (i := i) (j := 7) HOW.out hik (by omega)
      injection hvo with hvo _ hcap
      injection hvo' with hvo' _ hcap'
      subst hvo
      injection hvo' with hvo'
      injection hvo' with hvo'
      subst hvo' hcap
      clear hcap'
      have q6 : ∀ wx, Sp (From w1.heap.size) w3 wx → wx.cell? ⟨g, i * 9 + 6, none⟩ = some vr := fun wx hsp => by rw [(hsp.mov _ _ hH).cell, h6, hat 6 (by omega)]; rfl
      have q7 : ∀ wx, Sp (From w1.heap.size) w3 wx → wx.cell? ⟨g, i * 9 + 7, none⟩ = some vw2 := fun wx hsp => by rw [(hsp.mov _ _ hH').cell, h7, hat 7 (by omega)]; rfl
      have hwd : Wide (fun q => lo ≤ q ∧ (Value.slice (some ⟨g, 0, none⟩) k co).ownBlock ≠ some q) (From w1.heap.size) w3 := fun q hq _ => Nat.le_trans hlo hq.1
      have HS1 := Lib.hid (si1.mono hwd)
      have HS2 := Lib.hid (si2.mono hwd)
      have HQ7 := Lib.hid q7
      have e6 := q6 wr HSP.out
      clear z1 z2 si1 si2 hwd q6 q7 hH hH' h6 h7 hat hzl
      go_wp2_with (fail)
      refine (writeFn (HSP.out.si _ HS1.out)).mono ?_
      rintro e w8 ⟨⟨v8, rfl⟩, hs8⟩
      have HS8 := Lib.hid (HSP.out.trans hs8)
      have e7 := HQ7.out w8 HS8.out
      clear hs8 e6 HSP
      go_wp2_with (fail)
      refine (writeFn (HS8.out.si _ HS2.out)).mono ?_
      rintro e w9 ⟨⟨v9, rfl⟩, hs9⟩
      have HS9 := Lib.hid (HS8.out.trans hs9)
      clear hs9 e7 HS8
      go_wp2
      go_roundw
      case rel => exact ⟨i + 1, by simp, by omega, HS9.out⟩
      case measure => (simp [intOf]) <;> omega
    · have hi2 : ¬ (i : Int) < (k : Int) := by omega
      have hbw : Below w1.heap.size w1 wr := HB3.out.trans (HSP.out.fr.to_below HB3.out.size fun q hq hF => by have : w1.heap.size ≤ q := hF; omega)
      have HBW := Lib.hid hbw
      have hwL : IntKind.i64.wrap ((L : Int) + 1) = (L : Int) + 1 := by rw [IntKind.wrap_i64]; omega
      have HA2 : Hid (Calls Try.prog 31 #[.iface 69 (.agg #[v]), .string s, .int .i64 ((L : Int) + 1)] wr (AllPost l (L + 1) wr)) := by
        have h3 := allFn (most := L + 1) (HV.out.up (Keep.below hbw)) hs hsm hto (by omega)
        rw [HLL.out, show ((L + 1 : Nat) : Int) = (L : Int) + 1 by omega] at h3
        exact h3
      clear hbw
      go_wp2_with (fail)
      refine HA2.out.mono ?_
      rintro e w5 ⟨hb5, v5, k5, fo5, lo5, rfl, hk1, hk2, hk3, hlo5, hown5, hls5⟩
      have hk5 : k5 = l.length := by have := HLE.out; omega
      subst hk5
      have HM5 : Hid (MovesV (fun _ => True) w5 v5 l) := by
        rw [List.take_of_length_le (by rw [List.length_zipIdx]; exact Nat.le_refl _)] at hls5
        exact ⟨fo5, RowL.of_owns hown5 fun _ _ => trivial, LsF.imp (fun _ _ h => h.movF.mono fun _ _ _ => trivial) _ hls5⟩
      have HW5 : Hid (MovesV (fun k => k < w1.heap.size) w5 (.slice aw L cw) l) := by
        obtain ⟨fw, q1, q2⟩ := HW.out
        have hk : Keep (fun k => k < w1.heap.size) w1 w5 := fun q hq _ => (HBW.out.trans (hb5.mono HBW.out.size)).block q hq
        rw [HLE.out] at q1
        exact ⟨fw, by rw [HLE.out]; exact q1.up hk, LsF.up (fun _ _ => oneMov.up hk) _ q2⟩
      have HB5 : Hid (Below w1.heap.size w1 w5) := HBW.out.trans (hb5.mono HBW.out.size)
      clear hb5 hk1 hk2 hk3 hown5 hls5 HA2
      go_wp2_with (fail)
      refine (movesFn HM5.out HW5.out (by have := HLE.out; omega) HSM.out).mono ?_
      rintro e w6 ⟨rfl, hb6⟩
      have HB6 : Hid (Below w1.heap.size w1 w6) := HB5.out.trans (hb6.mono HB5.out.size)
      clear hb6
      go_wp2
      go_ret
      exact ⟨rfl, HB6.out⟩
end Go.Proofs.Ytcedenoicmpjmaa
