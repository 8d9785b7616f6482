/- The walk of sextantlaw19.known: chapter 19's example comes out as told. -/
import Derived.Test.YtgacglmbhfppgaaAbs
namespace Go.Proofs.Ytgacglmbhfppgaa
open Go.RowKit

theorem StoreAt.put_below {w w' : World} {B S : Nat} {L : List ByteArray} {st rm : Int} {F : Nat → Prop} (h : StoreAt w B S L st rm F) (hB : B ≤ w.heap.size) (hf : Fr F w w') : Below B w w' :=
  hf.to_below hB fun k hk hF => by have := (h.lt k hF).1; omega

set_option maxHeartbeats 400000 in
theorem known_any (w : World) : Calls Try.prog 9 #[] w fun e w' => e = .returned (.bool true) ∧ Below w.heap.size w w' := by
  have t1 : total [⟨#[97, 98]⟩] = 2 := rfl
  have t2 : total [⟨#[97, 98]⟩, ⟨#[99]⟩] = 3 := rfl
  go_enter Try.func9, Try.ntmps9
  go_wp2_with fail
  refine (new_at w w.heap.size (Nat.le_refl _) 2 3 (by omega) (by omega)).mono ?_
  rintro e w1 ⟨S, F, rfl, hS, hb, hF⟩
  rw [show max (2 : Int) 0 = 2 from rfl, show max (3 : Int) 0 = 3 from rfl] at hS
  go_wp2_with fail
  refine (put_new_at hS (by simp) _ (by decide) (by simp) (by simp) (by decide)).mono ?_
  rintro e w2 ⟨rfl, F2, hS2, hFr2, hF2⟩
  have hb2 := hb.trans (hS.put_below hb.size hFr2)
  rw [List.nil_append] at hS2
  go_wp2_with fail
  refine (put_old_at hS2 (by simp) ⟨#[97, 98]⟩ (by decide) 0 (by simp) rfl).mono ?_
  rintro e w3 ⟨rfl, hb3⟩
  have hS3 := hS2.below hb3
  replace hb3 := hb2.trans (hb3.mono hb2.size)
  go_wp2_with fail
  refine (put_full_at hS3 (by simp) _ (by decide) (by simp) (by decide)).mono ?_
  rintro e w4 ⟨rfl, hb4⟩
  have hS4 := hS3.below hb4
  replace hb4 := hb3.trans (hb4.mono hb3.size)
  go_wp2_with fail
  refine (put_new_at hS4 (by simp) _ (by decide) (by simp) (by simp) (by decide)).mono ?_
  rintro e w5 ⟨rfl, F5, hS5, hFr5, hF5⟩
  have hb5 := hb4.trans (hS4.put_below hb4.size hFr5)
  rw [List.cons_append, List.nil_append] at hS5
  go_wp2_with fail
  refine (put_full_at hS5 (by simp) _ (by decide) (by simp) (by decide)).mono ?_
  rintro e w6 ⟨rfl, hb6⟩
  have hS6 := hS5.below hb6
  replace hb6 := hb5.trans (hb6.mono hb5.size)
  go_wp2_with fail
  refine (find_old_at hS6 (by simp) ⟨#[99]⟩ (by decide) 1 (by simp) rfl).mono ?_
  rintro e w7 ⟨rfl, hb7⟩
  have hS7 := hS6.below hb7
  replace hb7 := hb6.trans (hb7.mono hb6.size)
  go_wp2_with fail
  refine (bytes_at hS7).mono ?_
  rintro e w8 ⟨rfl, rfl⟩
  rw [t2]
  go_wp2
  go_ret
  exact ⟨by simp, hb7⟩
end Go.Proofs.Ytgacglmbhfppgaa
