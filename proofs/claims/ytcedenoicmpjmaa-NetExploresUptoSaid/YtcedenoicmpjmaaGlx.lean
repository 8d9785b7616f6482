/- The walk of NetExplores. -/
import Derived.Test.YtcedenoicmpjmaaTok
import Derived.Test.YtcedenoicmpjmaaTof
import Derived.Test.YtcedenoicmpjmaaGxs
import Derived.Test.YtcedenoicmpjmaaKnown
namespace Go.Proofs.Ytcedenoicmpjmaa.G
open Go.RowKit Go.Maps
set_option linter.unusedVariables false
set_option linter.unusedSimpArgs false

set_option maxHeartbeats 4000000 in
set_option maxRecDepth 100000 in
theorem lawExplores {P P' : Nat → Prop} {w : World} {N : PNet} {t : PThr} {v vi vp vq : Value} {most : Int} (h : NetV P w v N) (hs : Small N) (ht : ThrV P' w vi vp vq t) (hts : SmallT t) :
    Calls Try.prog 6 #[.agg #[v], .agg #[vi, vp, vq], .int .i64 most] w (Yes w) := by
  have h := h.mono (Q := fun q => q < w.heap.size) fun q _ hq => hq
  have ht := ht.mono (Q := fun q => q < w.heap.size) fun q _ hq => hq
  obtain ⟨w1, hw1⟩ : ∃ W, W = (w.alloc (.cells #[v] 24)).alloc (.cells #[vi, vp, vq] 59) := ⟨_, rfl⟩
  have hb1 : Below w.heap.size w w1 := by rw [hw1]; exact ((Below.refl _ _).alloc (Nat.le_refl _) _).alloc (by simp) _
  have h3 : Holds w1 w.heap.size 24 [v] := by rw [hw1]; exact (Holds.new w 24 #[v]).alloc _
  have h4 : Holds w1 (w.heap.size + 1) 59 [vi, vp, vq] := by
    have h := Holds.new (w.alloc (.cells #[v] 24)) 59 #[vi, vp, vq]
    simp only [World.size_alloc] at h
    rw [hw1]; exact h
  have c0 : v.oneCell' = true := by obtain ⟨_, k, _⟩ := h; exact k.cell1
  have c1 : vi.oneCell' = true := ht.init.cell1
  have c2 : vp.oneCell' = true := by obtain ⟨_, k, _⟩ := ht.procs; exact k.cell1
  have c3 : vq.oneCell' = true := by obtain ⟨_, k, _⟩ := ht.props; exact k.cell1
  have HV := Lib.hid (h.up (Keep.below hb1))
  have HT := Lib.hid (ht.up (Keep.below hb1))
  have HS := Lib.hid hs
  have HTS := Lib.hid hts
  have HB1 := Lib.hid hb1
  have H3 := Lib.hid h3
  have H4 := Lib.hid h4
  clear h ht hs hts hb1 h3 h4
  go_enter Try.func6, Try.ntmps6
  go_upto_region 1 with (fail)
  rw [← hw1]
  clear hw1
  obtain ⟨b4, hb4⟩ : ∃ b, w.heap.size + 1 = b := ⟨_, rfl⟩
  rw [hb4] at H4 ⊢
  obtain ⟨b3, hb3⟩ : ∃ b, w.heap.size = b := ⟨_, rfl⟩
  rw [hb3] at H3 ⊢
  clear hb4 hb3
  go_wp2_with (fail)
  refine exploreNil.mono ?_
  rintro e w2 ⟨rfl, hb2⟩
  obtain ⟨w3, hw3⟩ : ∃ W, W = w2.alloc (.cells #[.slice none 0 0] 24) := ⟨_, rfl⟩
  have hb3 : Below w1.heap.size w1 w3 := by rw [hw3]; exact hb2.trans ((Below.refl _ w2).alloc hb2.size _)
  have HB3 : Hid (Below w.heap.size w w3) := HB1.out.trans (hb3.mono HB1.out.size)
  have HV3 := Lib.hid (HV.out.up (Keep.below hb3))
  have HT3 := Lib.hid (HT.out.up (Keep.below hb3))
  have H43 := Lib.hid (H4.out.belowAll hb3)
  have g3 := (H3.out.belowAll hb3).cell 0
  simp only [List.getElem?_cons_zero] at g3
  have HOF := Lib.hid (ofFn HV3.out HS.out)
  rw [hw3] at g3
  clear hb2 hb3 HV HT H3 H4 HB1
  go_wp2_with (fail)
  rw [← hw3]
  clear hw3 g3
  refine HOF.out.mono ?_
  rintro e w4 ⟨hb4, h4⟩
  have HB4 : Hid (Below w.heap.size w w4) := HB3.out.trans (hb4.mono HB3.out.size)
  have HT4 := Lib.hid (HT3.out.up (Keep.below hb4))
  have HRG := Lib.hid ((H43.out.belowAll hb4).range (i := 0) (n := 3) (xs := [vi, vp, vq]) rfl)
  have HOT := Lib.hid (ofTFn HT4.out HTS.out)
  clear hb4 H43 HB3 HV3 HT3
  -- known at the end
  have HEND : Hid (∀ W : World, Below w.heap.size w W → Calls Try.prog 11 #[] W (fun e W' => e = .returned (.bool true) ∧ Below w.heap.size w W')) := fun W hW => (knownFn W).mono fun e W' ⟨h1, h2⟩ => ⟨h1, hW.trans (h2.mono hW.size)⟩
  cases hck : chk N with
  | true =>
    rw [hck, if_pos rfl] at h4
    obtain ⟨vg, rfl, hvg⟩ := h4
    have HVG := Lib.hid hvg
    clear hvg
    go_wp2_with (refine wpList_load_mid rfl 59 _ rfl b4 0 rfl [vi, vp, vq] _ HRG.out Try.underlying59 rfl sz_Thrs ?_)
    refine HOT.out.mono ?_
    rintro e w5 ⟨hb5, h5⟩
    have HB5 : Hid (Below w.heap.size w w5) := HB4.out.trans (hb5.mono HB4.out.size)
    have HG5 := Lib.hid (graph_ok (HVG.out.up (Keep.below hb5)) hck HS.out)
    have HEG := Lib.hid (exploresG (I := gifc vg) (most := most) HG5.out)
    rcases h5 with ⟨ui, up, uq, rfl, hok, htv⟩ | rfl
    · have HTV := Lib.hid htv
      have HOK := Lib.hid hok
      clear hb5 hok htv HOT HRG HVG HG5
      go_wp2_with (fail)
      refine HEG.out.mono ?_
      rintro e w6 ⟨rfl, hb6⟩
      have HB6 : Hid (Below w.heap.size w w6) := HB5.out.trans (hb6.mono HB5.out.size)
      have HT6 := Lib.hid (threads_ok (HTV.out.up (Keep.below hb6)) HOK.out)
      have HET := Lib.hid (exploresG (I := tifc ui up uq) (most := most) HT6.out)
      clear hb6 HEG HTV HT6
      go_wp2_with (fail)
      refine HET.out.mono ?_
      rintro e w7 ⟨rfl, hb7⟩
      have HB7 : Hid (Below w.heap.size w w7) := HB6.out.trans (hb7.mono HB6.out.size)
      clear hb7 HET
      go_wp2_with (fail)
      refine (HEND.out _ HB7.out).mono ?_
      rintro e w8 ⟨rfl, hb8⟩
      have HB8 := Lib.hid hb8
      clear hb8
      go_wp2
      go_ret
      exact ⟨rfl, HB8.out⟩
    · clear hb5 HOT HRG HVG HG5
      go_wp2_with (fail)
      refine HEG.out.mono ?_
      rintro e w6 ⟨rfl, hb6⟩
      have HB6 : Hid (Below w.heap.size w w6) := HB5.out.trans (hb6.mono HB5.out.size)
      clear hb6 HEG
      go_wp2_with (fail)
      refine (HEND.out _ HB6.out).mono ?_
      rintro e w8 ⟨rfl, hb8⟩
      have HB8 := Lib.hid hb8
      clear hb8
      go_wp2
      go_ret
      exact ⟨rfl, HB8.out⟩
  | false =>
    rw [hck, if_neg (by simp)] at h4
    subst h4
    go_wp2_with (refine wpList_load_mid rfl 59 _ rfl b4 0 rfl [vi, vp, vq] _ HRG.out Try.underlying59 rfl sz_Thrs ?_)
    refine HOT.out.mono ?_
    rintro e w5 ⟨hb5, h5⟩
    have HB5 : Hid (Below w.heap.size w w5) := HB4.out.trans (hb5.mono HB4.out.size)
    rcases h5 with ⟨ui, up, uq, rfl, hok, htv⟩ | rfl
    · have HT5 := Lib.hid (threads_ok htv hok)
      have HET := Lib.hid (exploresG (I := tifc ui up uq) (most := most) HT5.out)
      clear hb5 hok htv HOT HRG HT5
      go_wp2_with (fail)
      refine HET.out.mono ?_
      rintro e w7 ⟨rfl, hb7⟩
      have HB7 : Hid (Below w.heap.size w w7) := HB5.out.trans (hb7.mono HB5.out.size)
      clear hb7 HET
      go_wp2_with (fail)
      refine (HEND.out _ HB7.out).mono ?_
      rintro e w8 ⟨rfl, hb8⟩
      have HB8 := Lib.hid hb8
      clear hb8
      go_wp2
      go_ret
      exact ⟨rfl, HB8.out⟩
    · clear hb5 HOT HRG
      go_wp2_with (fail)
      refine (HEND.out _ HB5.out).mono ?_
      rintro e w8 ⟨rfl, hb8⟩
      have HB8 := Lib.hid hb8
      clear hb8
      go_wp2
      go_ret
      exact ⟨rfl, HB8.out⟩
end Go.Proofs.Ytcedenoicmpjmaa.G
