/- The walk of sextantlaw19.StorePlays: it returns true, whatever the input. -/
import Derived.Test.YtgacglmbhfppgaaAll
import Derived.Deep.RegionWith
namespace Go.Proofs.Ytgacglmbhfppgaa
open Go.RowKit

/-- The script, as it lies in memory: n steps of three cells. -/
def Script (w : World) (a : Option Addr) (n : Nat) : Prop :=
  n ≤ maxLen ∧ ∀ i, i < n → ∃ (b off : Nat) (k : Int) (s : ByteArray) (m : Int), a = some ⟨b, off, none⟩ ∧ b < w.heap.size ∧ w.cell? ⟨b, off + i * 3, none⟩ = some (.int .i64 k) ∧ w.cell? ⟨b, off + i * 3 + 1, none⟩ = some (.string s) ∧ w.cell? ⟨b, off + i * 3 + 2, none⟩ = some (.int .i64 m) ∧
    (-9223372036854775808 ≤ k ∧ k ≤ 9223372036854775807) ∧ s.size ≤ maxLen ∧ (-9223372036854775808 ≤ m ∧ m ≤ 9223372036854775807)

/-- What holds between two steps. -/
structure PlaysRel (w wr : World) (S R : Nat) (st rm : Int) (L : List ByteArray) (F : Nat → Prop) (a : Option Addr) (cap : Nat) : Prop where
  store : StoreAt wr w.heap.size S L st rm F
  ref : RefIs wr w.heap.size R L st rm a cap
  below : Below w.heap.size w wr

theorem PlaysRel.bel {w wr wx : World} {S R : Nat} {st rm : Int} {L : List ByteArray} {F : Nat → Prop} {a : Option Addr} {cap : Nat} (h : PlaysRel w wr S R st rm L F a cap) (hb : Below wr.heap.size wr wx) : PlaysRel w wx S R st rm L F a cap :=
  ⟨h.store.below hb, h.ref.below hb, h.below.trans (hb.mono h.below.size)⟩

/-- Both put the same state. -/
theorem PlaysRel.put {w wr wx wy : World} {S R : Nat} {st rm : Int} {L : List ByteArray} {F F' : Nat → Prop} {a a' : Option Addr} {cap cap' : Nat} {s : ByteArray} (h : PlaysRel w wr S R st rm L F a cap)
    (h1 : StoreAt wx w.heap.size S (L ++ [s]) st rm F') (h2 : Fr F wr wx) (h3 : RefIs wy w.heap.size R (L ++ [s]) st rm a' cap') (h4 : Fr (fun k => k = R ∨ (Value.slice a L.length cap).ownBlock = some k) wx wy) : PlaysRel w wy S R st rm (L ++ [s]) F' a' cap' := by
  have hrx : RefIs wx w.heap.size R L st rm a cap := h.ref.fr h2 (h.store.apart_holds h.ref.box (by decide) (by decide) (by decide)) (h.store.apart h.ref.row (by decide) (by decide) (by decide))
  refine ⟨h1.fr h4 fun k hk hn => ?_, h3, (h.below.trans (h2.to_below h.below.size fun k hk hF => ?_)).trans (h4.to_below (Nat.le_trans h.below.size h2.size) fun k hk hn => ?_)⟩
  · rcases hn with rfl | hn
    · exact h1.apart_holds hrx.box (by decide) (by decide) (by decide) hk
    · exact h1.apart hrx.row (by decide) (by decide) (by decide) k hn hk
  · have := (h.store.lt k hF).1; omega
  · rcases hn with rfl | hn
    · have := hrx.bR; omega
    · have := (hrx.row.lt k hn).1; omega

theorem PlaysRel.mid {w wr wx : World} {S R : Nat} {st rm : Int} {L : List ByteArray} {F : Nat → Prop} {a : Option Addr} {cap : Nat} (h : PlaysRel w wr S R st rm L F a cap) (h2 : Fr F wr wx) : RefIs wx w.heap.size R L st rm a cap :=
  h.ref.fr h2 (h.store.apart_holds h.ref.box (by decide) (by decide) (by decide)) (h.store.apart h.ref.row (by decide) (by decide) (by decide))

set_option maxRecDepth 100000 in
set_option maxHeartbeats 4000000 in
theorem plays_any (st bytes : Int) (sa : Option Addr) (n scap : Nat) (w : World) (hst : -9223372036854775808 ≤ st ∧ st ≤ 9223372036854775807) (hby : -9223372036854775808 ≤ bytes ∧ bytes ≤ 9223372036854775807) (hsc : Script w sa n) :
    Calls Try.prog 4 #[.int .i64 st, .int .i64 bytes, .slice sa n scap] w fun e w' => e = .returned (.bool true) ∧ Below w.heap.size w w' := by
  have hnn := hsc.1
  unfold maxLen at hnn
  go_enter Try.func4, Try.ntmps4
  go_wp2_with fail
  refine (new_at w w.heap.size (Nat.le_refl _) st bytes (by omega) (by omega)).mono ?_
  rintro e w1 ⟨S, F, rfl, hS, hb, hF⟩
  go_wp2_with fail
  refine (rnew_any w1 w.heap.size hb.size st bytes).mono ?_
  rintro e w2 ⟨R, rfl, hR, hb2⟩
  have hS2 := hS.below hb2
  replace hb2 := hb.trans (hb2.mono hb.size)
  generalize hst' : max st 0 = st' at *
  generalize hby' : max bytes 0 = rm at *
  have HST := Lib.hid hst'
  have HBY := Lib.hid hby'
  have hst0 := hS.st0
  have hrm0 := hS.rm0
  clear hst' hby' hS hF
  go_wp2_with fail
  refine (known_any w2).mono ?_
  rintro e w3 ⟨rfl, hb3⟩
  have hP : PlaysRel w w3 S R st' rm [] F none 0 := ⟨hS2.below hb3, hR.below hb3, hb2.trans (hb3.mono hb2.size)⟩
  clear hS2 hR hb hb2 hb3
  go_wp2_with fail
  go_loopw [9] (fun i wr => ∃ (k : Nat) (L : List ByteArray) (F : Nat → Prop) (a : Option Addr) (cap : Nat), i = .int .i64 k ∧ k ≤ n ∧ k ≤ 400 ∧ L.length ≤ k ∧ PlaysRel w wr S R st' rm L F a cap) (fun i _ => 401 - (intOf i).toNat)
  case atStart => exact ⟨0, [], F, none, 0, rfl, by omega, by omega, by simp, hP⟩
  case round =>
    obtain ⟨k, L, F, a, cap, rfl, hkn, hk4, hL, hPr⟩ := hrel
    clear hP
    by_cases hlt : k < n ∧ k < 400
    case pos =>
      obtain ⟨hlt, hlt4⟩ := hlt
      obtain ⟨b, off, kd, s, m, rfl, hbw, e0, e1, e2, hkd, hsz, hm⟩ := hsc.2 k hlt
      have f0 := (hPr.below.cell (p := ⟨b, off + k * 3, none⟩) hbw).trans e0
      have f1 := (hPr.below.cell (p := ⟨b, off + k * 3 + 1, none⟩) hbw).trans e1
      have f2 := (hPr.below.cell (p := ⟨b, off + k * 3 + 2, none⟩) hbw).trans e2
      have hl : L.length ≤ 1000000 := by omega
      clear e0 e1 e2
      go_wp2_with fail
      refine (pick_any kd 4 _ hkd (by omega)).mono ?_
      rintro e wp ⟨p, rfl, hp0, hp4, rfl⟩
      have hx := Holds.new wr 42 #[.int .i64 kd, .string s, .int .i64 m]
      have hP1 := hPr.bel ((Below.refl _ wr).alloc (Nat.le_refl _) (.cells #[.int .i64 kd, .string s, .int .i64 m] 42))
      generalize hwx : wr.alloc (.cells #[.int .i64 kd, .string s, .int .i64 m] 42) = wx at *
      have hg : wr.heap.size < wx.heap.size := by rw [← hwx]; simp
      clear hwx hPr f0 f1 f2
      generalize wr.heap.size = g at *
      have x0 := hx.cell 0
      have x1 := hx.cell 1
      have x2 := hx.cell 2
      simp at x0 x1 x2
      have hcase : p = 0 ∨ p = 1 ∨ p = 2 ∨ p = 3 := by omega
      rcases hcase with rfl | rfl | rfl | rfl
      · by_cases hmem : s ∈ L
        case pos =>
          obtain ⟨i, hi, he⟩ := List.getElem_of_mem hmem
          clear hmem
          have HE := Lib.hid he
          clear he
          go_wp2_with fail
          refine (put_old_at hP1.store hl s hsz i hi HE.out).mono ?_
          rintro e w4 ⟨rfl, hb4⟩
          have hP2 := hP1.bel hb4
          have y1 := (hb4.cell (p := ⟨g, 1, none⟩) hg).trans x1
          go_wp2_with fail
          refine (rput_old hP2.ref hl hP2.store.nodup s i hi HE.out).mono ?_
          rintro e w5 ⟨rfl, hb5⟩
          have hP3 := hP2.bel hb5
          have y0 := hP3.ref.box.cell 0
          simp at y0
          have hll : (L).length ≤ 1000000 := by first | (simp; omega) | omega
          have htt : total (L) ≤ 9223372036854775807 := by have := hP3.store.fits; omega
          go_wp2_with fail
          go_quiet ((first | (go_at_call 12; exact quiet_same (len_at (hP3.store.drewN _))) | (go_at_call 13; exact quiet_same (bytes_at (hP3.store.drewN _))) | (go_at_call 19; exact quiet_same (rbytes_any (hP3.ref.drewN _) hll htt))))
          have hPE := hP3.bel (below_drewN (Below.refl _ _) nq)
          go_wp2
          go_roundw
          case rel => exact ⟨k + 1, L, F, a, cap, by go_num, by omega, by omega, by first | (simp; omega) | omega, hPE⟩
          case measure => simp [intOf]; omega
        case neg =>
          have HN := Lib.hid hmem
          clear hmem
          by_cases hfull : st' ≤ L.length ∨ rm - total L < s.size
          case pos =>
            have HF := Lib.hid hfull
            clear hfull
            go_wp2_with fail
            refine (put_full_at hP1.store hl s hsz HN.out HF.out).mono ?_
            rintro e w4 ⟨rfl, hb4⟩
            have hP2 := hP1.bel hb4
            have y1 := (hb4.cell (p := ⟨g, 1, none⟩) hg).trans x1
            go_wp2_with fail
            refine (rput_full hP2.ref hl hrm0 hP2.store.fits s hsz HN.out HF.out).mono ?_
            rintro e w5 ⟨rfl, hb5⟩
            have hP3 := hP2.bel hb5
            have y0 := hP3.ref.box.cell 0
            simp at y0
            have hll : (L).length ≤ 1000000 := by first | (simp; omega) | omega
            have htt : total (L) ≤ 9223372036854775807 := by have := hP3.store.fits; omega
            go_wp2_with fail
            go_quiet ((first | (go_at_call 12; exact quiet_same (len_at (hP3.store.drewN _))) | (go_at_call 13; exact quiet_same (bytes_at (hP3.store.drewN _))) | (go_at_call 19; exact quiet_same (rbytes_any (hP3.ref.drewN _) hll htt))))
            have hPE := hP3.bel (below_drewN (Below.refl _ _) nq)
            go_wp2
            go_roundw
            case rel => exact ⟨k + 1, L, F, a, cap, by go_num, by omega, by omega, by first | (simp; omega) | omega, hPE⟩
            case measure => simp [intOf]; omega
          case neg =>
            have hf1 : L.length < st' := by omega
            have hf2 : s.size ≤ rm - total L := by omega
            clear hfull
            go_wp2_with fail
            refine (put_new_at hP1.store hl s hsz HN.out hf1 hf2).mono ?_
            rintro e w4 ⟨rfl, F4, hS4, hF4, hG4⟩
            have hR4 := hP1.mid hF4
            have hnF : ¬ F g := hP1.store.apart_holds hx (by decide) (by decide) (by decide)
            have y1 : w4.cell? ⟨g, 1, none⟩ = some (.string s) := by have := (hF4.holds hx hnF).cell 1; simpa using this
            go_wp2_with fail
            refine (rput_new hR4 hl hrm0 s hsz HN.out hf1 hf2).mono ?_
            rintro e w5 ⟨rfl, a5, cap5, hR5, hF5, hG5⟩
            have hP3 := hP1.put hS4 hF4 hR5 hF5
            have y0 := hP3.ref.box.cell 0
            simp at y0
            have hll : (L ++ [s]).length ≤ 1000000 := by first | (simp; omega) | omega
            have htt : total (L ++ [s]) ≤ 9223372036854775807 := by have := hP3.store.fits; omega
            go_wp2_with fail
            go_quiet ((first | (go_at_call 12; exact quiet_same (len_at (hP3.store.drewN _))) | (go_at_call 13; exact quiet_same (bytes_at (hP3.store.drewN _))) | (go_at_call 19; exact quiet_same (rbytes_any (hP3.ref.drewN _) hll htt))))
            have hPE := hP3.bel (below_drewN (Below.refl _ _) nq)
            go_wp2
            go_roundw
            case rel => exact ⟨k + 1, L ++ [s], F4, a5, cap5, by go_num, by omega, by omega, by first | (simp; omega) | omega, hPE⟩
            case measure => simp [intOf]; omega
      · by_cases hmem : s ∈ L
        case pos =>
          obtain ⟨i, hi, he⟩ := List.getElem_of_mem hmem
          clear hmem
          have HE := Lib.hid he
          clear he
          go_wp2_with fail
          refine (put_old_at hP1.store hl s hsz i hi HE.out).mono ?_
          rintro e w4 ⟨rfl, hb4⟩
          have hP2 := hP1.bel hb4
          have y1 := (hb4.cell (p := ⟨g, 1, none⟩) hg).trans x1
          go_wp2_with fail
          refine (rput_old hP2.ref hl hP2.store.nodup s i hi HE.out).mono ?_
          rintro e w5 ⟨rfl, hb5⟩
          have hP3 := hP2.bel hb5
          have y0 := hP3.ref.box.cell 0
          simp at y0
          have hll : (L).length ≤ 1000000 := by first | (simp; omega) | omega
          have htt : total (L) ≤ 9223372036854775807 := by have := hP3.store.fits; omega
          go_wp2_with fail
          go_quiet ((first | (go_at_call 12; exact quiet_same (len_at (hP3.store.drewN _))) | (go_at_call 13; exact quiet_same (bytes_at (hP3.store.drewN _))) | (go_at_call 19; exact quiet_same (rbytes_any (hP3.ref.drewN _) hll htt))))
          have hPE := hP3.bel (below_drewN (Below.refl _ _) nq)
          go_wp2
          go_roundw
          case rel => exact ⟨k + 1, L, F, a, cap, by go_num, by omega, by omega, by first | (simp; omega) | omega, hPE⟩
          case measure => simp [intOf]; omega
        case neg =>
          have HN := Lib.hid hmem
          clear hmem
          by_cases hfull : st' ≤ L.length ∨ rm - total L < s.size
          case pos =>
            have HF := Lib.hid hfull
            clear hfull
            go_wp2_with fail
            refine (put_full_at hP1.store hl s hsz HN.out HF.out).mono ?_
            rintro e w4 ⟨rfl, hb4⟩
            have hP2 := hP1.bel hb4
            have y1 := (hb4.cell (p := ⟨g, 1, none⟩) hg).trans x1
            go_wp2_with fail
            refine (rput_full hP2.ref hl hrm0 hP2.store.fits s hsz HN.out HF.out).mono ?_
            rintro e w5 ⟨rfl, hb5⟩
            have hP3 := hP2.bel hb5
            have y0 := hP3.ref.box.cell 0
            simp at y0
            have hll : (L).length ≤ 1000000 := by first | (simp; omega) | omega
            have htt : total (L) ≤ 9223372036854775807 := by have := hP3.store.fits; omega
            go_wp2_with fail
            go_quiet ((first | (go_at_call 12; exact quiet_same (len_at (hP3.store.drewN _))) | (go_at_call 13; exact quiet_same (bytes_at (hP3.store.drewN _))) | (go_at_call 19; exact quiet_same (rbytes_any (hP3.ref.drewN _) hll htt))))
            have hPE := hP3.bel (below_drewN (Below.refl _ _) nq)
            go_wp2
            go_roundw
            case rel => exact ⟨k + 1, L, F, a, cap, by go_num, by omega, by omega, by first | (simp; omega) | omega, hPE⟩
            case measure => simp [intOf]; omega
          case neg =>
            have hf1 : L.length < st' := by omega
            have hf2 : s.size ≤ rm - total L := by omega
            clear hfull
            go_wp2_with fail
            refine (put_new_at hP1.store hl s hsz HN.out hf1 hf2).mono ?_
            rintro e w4 ⟨rfl, F4, hS4, hF4, hG4⟩
            have hR4 := hP1.mid hF4
            have hnF : ¬ F g := hP1.store.apart_holds hx (by decide) (by decide) (by decide)
            have y1 : w4.cell? ⟨g, 1, none⟩ = some (.string s) := by have := (hF4.holds hx hnF).cell 1; simpa using this
            go_wp2_with fail
            refine (rput_new hR4 hl hrm0 s hsz HN.out hf1 hf2).mono ?_
            rintro e w5 ⟨rfl, a5, cap5, hR5, hF5, hG5⟩
            have hP3 := hP1.put hS4 hF4 hR5 hF5
            have y0 := hP3.ref.box.cell 0
            simp at y0
            have hll : (L ++ [s]).length ≤ 1000000 := by first | (simp; omega) | omega
            have htt : total (L ++ [s]) ≤ 9223372036854775807 := by have := hP3.store.fits; omega
            go_wp2_with fail
            go_quiet ((first | (go_at_call 12; exact quiet_same (len_at (hP3.store.drewN _))) | (go_at_call 13; exact quiet_same (bytes_at (hP3.store.drewN _))) | (go_at_call 19; exact quiet_same (rbytes_any (hP3.ref.drewN _) hll htt))))
            have hPE := hP3.bel (below_drewN (Below.refl _ _) nq)
            go_wp2
            go_roundw
            case rel => exact ⟨k + 1, L ++ [s], F4, a5, cap5, by go_num, by omega, by omega, by first | (simp; omega) | omega, hPE⟩
            case measure => simp [intOf]; omega
      · by_cases hmem : s ∈ L
        case pos =>
          obtain ⟨i, hi, he⟩ := List.getElem_of_mem hmem
          clear hmem
          have HE := Lib.hid he
          clear he
          go_wp2_with fail
          refine (find_old_at hP1.store hl s hsz i hi HE.out).mono ?_
          rintro e w4 ⟨rfl, hb4⟩
          have hP2 := hP1.bel hb4
          have y1 := (hb4.cell (p := ⟨g, 1, none⟩) hg).trans x1
          go_wp2_with fail
          refine (rfind_old hP2.ref hl hP2.store.nodup s i hi HE.out).mono ?_
          rintro e w5 ⟨rfl, rfl⟩
          have y0 := hP2.ref.box.cell 0
          simp at y0
          have hll : (L).length ≤ 1000000 := by first | (simp; omega) | omega
          have htt : total (L) ≤ 9223372036854775807 := by have := hP2.store.fits; omega
          go_wp2_with fail
          go_quiet ((first | (go_at_call 12; exact quiet_same (len_at (hP2.store.drewN _))) | (go_at_call 13; exact quiet_same (bytes_at (hP2.store.drewN _))) | (go_at_call 19; exact quiet_same (rbytes_any (hP2.ref.drewN _) hll htt))))
          have hPE := hP2.bel (below_drewN (Below.refl _ _) nq)
          go_wp2
          go_roundw
          case rel => exact ⟨k + 1, L, F, a, cap, by go_num, by omega, by omega, by first | (simp; omega) | omega, hPE⟩
          case measure => simp [intOf]; omega
        case neg =>
          have HN := Lib.hid hmem
          clear hmem
          go_wp2_with fail
          refine (find_none_at hP1.store hl s hsz HN.out).mono ?_
          rintro e w4 ⟨rfl, hb4⟩
          have hP2 := hP1.bel hb4
          have y1 := (hb4.cell (p := ⟨g, 1, none⟩) hg).trans x1
          go_wp2_with fail
          refine (rfind_none hP2.ref hl s HN.out).mono ?_
          rintro e w5 ⟨rfl, rfl⟩
          have y0 := hP2.ref.box.cell 0
          simp at y0
          have hll : (L).length ≤ 1000000 := by first | (simp; omega) | omega
          have htt : total (L) ≤ 9223372036854775807 := by have := hP2.store.fits; omega
          go_wp2_with fail
          go_quiet ((first | (go_at_call 12; exact quiet_same (len_at (hP2.store.drewN _))) | (go_at_call 13; exact quiet_same (bytes_at (hP2.store.drewN _))) | (go_at_call 19; exact quiet_same (rbytes_any (hP2.ref.drewN _) hll htt))))
          have hPE := hP2.bel (below_drewN (Below.refl _ _) nq)
          go_wp2
          go_roundw
          case rel => exact ⟨k + 1, L, F, a, cap, by go_num, by omega, by omega, by first | (simp; omega) | omega, hPE⟩
          case measure => simp [intOf]; omega
      · by_cases hm2 : m < 0 ∨ L.length ≤ m
        case pos =>
          have HM := Lib.hid hm2
          clear hm2
          go_wp2_with fail
          refine (get_out_at hP1.store hl m HM.out).mono ?_
          rintro e w4 ⟨rfl, hb4⟩
          have hP2 := hP1.bel hb4
          have y2 := (hb4.cell (p := ⟨g, 2, none⟩) hg).trans x2
          go_wp2_with fail
          refine (rget_out hP2.ref hl m HM.out).mono ?_
          rintro e w5 ⟨rfl, rfl⟩
          have y0 := hP2.ref.box.cell 0
          simp at y0
          have hll : (L).length ≤ 1000000 := by first | (simp; omega) | omega
          have htt : total (L) ≤ 9223372036854775807 := by have := hP2.store.fits; omega
          go_wp2_with fail
          go_quiet ((first | (go_at_call 12; exact quiet_same (len_at (hP2.store.drewN _))) | (go_at_call 13; exact quiet_same (bytes_at (hP2.store.drewN _))) | (go_at_call 19; exact quiet_same (rbytes_any (hP2.ref.drewN _) hll htt))))
          have hPE := hP2.bel (below_drewN (Below.refl _ _) nq)
          go_wp2
          go_roundw
          case rel => exact ⟨k + 1, L, F, a, cap, by go_num, by omega, by omega, by first | (simp; omega) | omega, hPE⟩
          case measure => simp [intOf]; omega
        case neg =>
          obtain ⟨j, rfl⟩ := Int.eq_ofNat_of_zero_le (show 0 ≤ m by omega)
          have hj : j < L.length := by omega
          clear hm2
          go_wp2_with fail
          refine (get_in_at hP1.store hl j hj).mono ?_
          rintro e w4 ⟨rfl, hb4⟩
          have hP2 := hP1.bel hb4
          have y2 := (hb4.cell (p := ⟨g, 2, none⟩) hg).trans x2
          go_wp2_with fail
          refine (rget_in hP2.ref hl j hj).mono ?_
          rintro e w5 ⟨rfl, rfl⟩
          have y0 := hP2.ref.box.cell 0
          simp at y0
          have hll : (L).length ≤ 1000000 := by first | (simp; omega) | omega
          have htt : total (L) ≤ 9223372036854775807 := by have := hP2.store.fits; omega
          go_wp2_with fail
          go_quiet ((first | (go_at_call 12; exact quiet_same (len_at (hP2.store.drewN _))) | (go_at_call 13; exact quiet_same (bytes_at (hP2.store.drewN _))) | (go_at_call 19; exact quiet_same (rbytes_any (hP2.ref.drewN _) hll htt))))
          have hPE := hP2.bel (below_drewN (Below.refl _ _) nq)
          go_wp2
          go_roundw
          case rel => exact ⟨k + 1, L, F, a, cap, by go_num, by omega, by omega, by first | (simp; omega) | omega, hPE⟩
          case measure => simp [intOf]; omega
    case neg =>
      have hor : k = n ∨ (k < n ∧ k = 400) := by omega
      rcases hor with rfl | ⟨hkn2, rfl⟩
      all_goals
        clear hlt
        go_wp2_with fail
        have y0 := hPr.ref.box.cell 0
        simp at y0
        have hl : L.length ≤ 1000000 := by omega
        go_region_with (first | (go_at_call 7; refine (pick_any _ 5 _ hst (by omega)).mono ?_; rintro e wp ⟨p, rfl, hp0, hp4, hwp⟩; subst hwp) | (go_at_call 20; refine (all_any _ w.heap.size w.heap.size S L st' rm F (by exact hPr.store.drewN 1) hl a cap (by exact (hPr.ref.drewN 1).row) _).mono ?_; rintro e w5 ⟨rfl, hb5⟩))
        all_goals
          go_wp2
          go_ret
          exact ⟨rfl, hPr.below.drew.trans (hb5.mono hPr.below.size)⟩
end Go.Proofs.Ytgacglmbhfppgaa
