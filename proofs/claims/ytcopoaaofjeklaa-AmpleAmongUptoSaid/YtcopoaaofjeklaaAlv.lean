/- The walk of threads.Live. -/
import Derived.Test.YtcopoaaofjeklaaAhe
namespace Go.Proofs.Ytcopoaaofjeklaa.G
open Go.RowKit Go.Maps
set_option linter.unusedVariables false
set_option linter.unusedSimpArgs false

def LivePost (l : List Nat) (w : World) (e : Ending) (w' : World) : Prop := Below w.heap.size w w' ∧ ∃ v, e = .returned v ∧ RowL (From w.heap.size) w' 1 v l.length (l.map natV)
set_option maxHeartbeats 4000000 in
set_option maxRecDepth 100000 in
theorem liveFn {P : Nat → Prop} {w : World} {t : PThr} {vi vp vq : Value} {s : ByteArray} (h : ThrV P w vi vp vq t) (ht : OkT t) (hs : s.size ≤ 1048576) : Calls Try.prog 51 #[.agg #[vi, vp, vq], .string s] w (LivePost (tlive t s) w) := by
  obtain ⟨i0, z0, hi0, hz0, hz1, hz2, hz3⟩ := info_of info_int
  have h := h.mono (Q := fun q => q < w.heap.size) fun q _ hq => hq
  obtain ⟨w1, hw1⟩ : ∃ W, W = w.alloc (.cells #[vi, vp, vq] 66) := ⟨_, rfl⟩
  have hb1 : Below w.heap.size w w1 := by rw [hw1]; exact (Below.refl _ _).alloc (Nat.le_refl _) _
  have h3 : Holds w1 w.heap.size 66 [vi, vp, vq] := by rw [hw1]; exact Holds.new w 66 #[vi, vp, vq]
  have hv1 := h.up (Keep.below hb1)
  have HST := Lib.hid (stateFn hv1 ht hs)
  have HB1 := Lib.hid hb1
  have HT := Lib.hid ht
  have HRG := Lib.hid (h3.range (i := 0) (n := 3) (xs := [vi, vp, vq]) rfl)
  have c1 : vi.oneCell' = true := h.init.cell1
  have c2 : vp.oneCell' = true := by obtain ⟨_, k, _⟩ := h.procs; exact k.cell1
  have c3 : vq.oneCell' = true := by obtain ⟨_, k, _⟩ := h.props; exact k.cell1
  clear h ht hs hb1 h3 hv1
  go_enter Try.func51, Try.ntmps51
  go_upto_region 1 with (fail)
  rw [← hw1]
  clear hw1
  obtain ⟨b3, hb3⟩ : ∃ b, w.heap.size = b := ⟨_, rfl⟩
  have HBB : Hid (w.heap.size = b3) := hb3
  rw [hb3] at HRG ⊢
  clear hb3
  go_wp2_with (refine wpList_load_mid rfl 66 _ rfl b3 0 rfl [vi, vp, vq] _ HRG.out Try.underlying66 rfl sz_Thr ?_)
  refine HST.out.mono ?_
  rintro e w2 ⟨hb2, hp⟩
  have HB2 := Lib.hid hb2
  have HB02 := Lib.hid (HB1.out.trans (hb2.mono HB1.out.size))
  clear HST HRG hb2
  cases hts : tstate t s with
  | none =>
    rw [hts] at hp
    obtain ⟨v1, v2, rfl⟩ := hp
    have HTH : Hid (tlive t s = []) := by show _ = _; unfold tlive; rw [hts]
    go_wp2
    go_ret
    exact ⟨HB02.out, _, rfl, by rw [HTH.out]; exact RowL.nil _ _ _⟩
  | some r =>
    obtain ⟨vs, ns⟩ := r
    rw [hts] at hp
    obtain ⟨v1, v2, rfl, hr1, hr2⟩ := hp
    obtain ⟨k1, k2, k3, k4, k5⟩ := tstate_of hts
    have hr1 := hr1.row
    have hr2 := hr2.row
    obtain ⟨a1, z1, rfl, _, _, _⟩ := hr1.form
    obtain ⟨a2, z2, rfl, _, _, _⟩ := hr2.form
    obtain ⟨np, hnp⟩ : ∃ n, ns.length = n := ⟨_, rfl⟩
    obtain ⟨ni, hni⟩ : ∃ n, vs.length = n := ⟨_, rfl⟩
    have hn8 : np ≤ 8 := by have := HT.out.len.2.1; omega
    have HTH : Hid (tlive t s = List.range np) := by show _ = _; unfold tlive; rw [hts, ← hnp]
    rw [hnp, hni]
    clear hr1 hr2 k1 k2 k3 k4 k5 hni hnp hts
    go_wp2
    go_loopw [8, 21] (fun vo x W => ∃ i : Nat, x = .int .i64 (i : Int) ∧ i ≤ np ∧ Hid (W.ownsRow w2.heap.size 3 1 vo i ((List.range i).map natV)) ∧ Hid (Below w2.heap.size w2 W)) (fun _ x _ => np - (intOf x).toNat)
    case atStart => exact ⟨0, rfl, Nat.zero_le _, World.ownsRow_nil _ _ _ _, Below.refl _ _⟩
    case round =>
      obtain ⟨i, hx, hi, HO, HB⟩ := hrel
      subst hx
      by_cases hin : i < np
      · have hi2i : (i : Int) < (np : Int) := by omega
        have hi0i : (0 : Int) ≤ (i : Int) := by omega
        have hwji : IntKind.i64.wrap ((i : Int) + 1) = (i : Int) + 1 := by rw [IntKind.wrap_i64]; omega
        obtain ⟨vo, hvo⟩ : ∃ v, v = u8 := ⟨_, rfl⟩
        rw [← hvo] at HO ⊢
        clear hvo
        go_wp2_with (at_builtin; refine wpList_append_own_at _ rfl (.tmp 24) (.tmp 26) _ rfl w2.heap.size 3 i0 z0 1 8 Try.underlying22 hi0 hz0 hz1 hz2 hz3 (by omega) vo i ((List.range i).map natV) rfl (HO.out.alloc _) ⟨wr.heap.size, 0, none⟩ 1 1 [.int .i64 (i : Int)] rfl rfl ?c1 ?c2 ?c3 ?c4 ?c5 ?_)
        case c1 => exact cell_one_new _ _ _
        case c2 => simp [Value.oneCell']
        case c3 => unfold maxLen; omega
        case c4 => omega
        case c5 => have := HB.out.size; simp; omega
        intro v' w7 hown hgrow _ _
        have hB7 := (HB.out.alloc HB.out.size _).grown hgrow (by have := HB.out.size; simp; omega) fun k hk => owns_ge HO.out k hk
        have HO7 : Hid (w7.ownsRow w2.heap.size 3 1 v' (i + 1) ((List.range (i + 1)).map natV)) := by
          rw [List.range_succ, List.map_append]
          exact hown
        have HB7 := Lib.hid hB7
        clear hown hgrow HO HB hB7
        go_wp2
        refine ⟨⟨i + 1, by simp, by omega, HO7, HB7⟩, ?_⟩
        simp [intOf]
        omega
      · obtain rfl : i = np := by omega
        have HR := Lib.hid (RowL.of_owns (P := From w.heap.size) HO.out fun k hk => Nat.le_trans HB02.out.size hk)
        have HBZ : Hid (Below w.heap.size w wr) := HB02.out.trans (HB.out.mono HB02.out.size)
        clear HO HB
        go_wp2
        go_ret
        exact ⟨HBZ.out, _, rfl, by rw [HTH.out, List.length_range]; exact HR.out⟩
end Go.Proofs.Ytcopoaaofjeklaa.G
