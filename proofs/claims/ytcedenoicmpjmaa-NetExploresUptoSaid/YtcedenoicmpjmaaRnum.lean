/- The walk of the document's Number. -/
import Derived.Test.YtcedenoicmpjmaaEnc
import Derived.Test.YtcedenoicmpjmaaMs6
namespace Go.Proofs.Ytcedenoicmpjmaa
open Go.RowKit
set_option linter.unusedVariables false
set_option linter.unusedSimpArgs false

theorem run_one_byte {P : Program} (w : World) (t e dst : TypeId) (b : Nat) (n : Nat) (hn : n < 256) (ht : P.underlying t = some (.slice e)) (he : P.underlying e = some (.int .u8)) (hd : P.underlying dst = some .string)
    (h : w.cell? ⟨b, 0, none⟩ = some (.int .u8 (n : Int))) : (convert t dst (.slice (some ⟨b, 0, none⟩) 1 1)).run P w = .ok (.string ⟨#[UInt8.ofNat n]⟩) w := by
  have := run_convert_bytes_back (P := P) w t dst e ⟨b, 0, none⟩ 1 [UInt8.ofNat n] ht he hd (fun j hj => by
    have : j = 0 := by simpa using hj
    subst this
    have h2 : (⟨b, 0, none⟩ : Addr).add 0 = ⟨b, 0, none⟩ := rfl
    rw [h2, h]
    show _ = some (Value.int .u8 ((UInt8.ofNat n).toNat : Int))
    rw [u8_of hn])
  simpa using this
def NumPost (n : Nat) (w : World) (e : Ending) (w' : World) : Prop := e = .returned (.string ⟨(enc n).toArray⟩) ∧ Below w.heap.size w w'
set_option maxHeartbeats 1000000 in
set_option maxRecDepth 100000 in
theorem refNumber : ∀ (n : Nat), n < 18446744073709551616 → ∀ w, Calls Try.prog 36 #[.int .u64 (n : Int)] w (NumPost n w) := by
  intro n
  induction n using Nat.strongRecOn with
  | ind n ih =>
    intro hn w
    by_cases hl : n < 128
    · have d1 : decide ((n : Int) < 128) = true := decide_eq_true (by omega)
      have hm : ((n : Int) % 256) = (n : Int) := by omega
      have hc := fun (b : Nat) => run_one_byte (P := Try.prog) (w.alloc (.cells #[.int .u8 (n : Int)] 5)) 111 5 9 w.heap.size n (by omega) Try.underlying111 Try.underlying5 Try.underlying9 (by simp)
      have hc1 := hc 0
      have he := enc_lt hl
      have HE := Lib.hid he
      clear hn he hc
      go_enter Try.func36, Try.ntmps36
      go_wp2
      go_ret
      exact ⟨by rw [HE.out]; rfl, (Below.refl _ _).alloc (Nat.le_refl _) _⟩
    · have d1 : decide ((n : Int) < 128) = false := decide_eq_false (by omega)
      have HC := Lib.hid (ih (n / 128) (by omega) (by omega))
      have HE := Lib.hid (enc_ge hl)
      have HLN := Lib.hid (enc_len64 (n := n / 128) (by omega))
      have HN := Lib.hid hn
      clear hn ih
      go_enter Try.func36, Try.ntmps36
      go_wp2_with (fail)
      obtain ⟨y, hy⟩ : ∃ y, n % 128 = y := ⟨_, rfl⟩
      obtain ⟨x, hx⟩ : ∃ x, 128 + y = x := ⟨_, rfl⟩
      obtain ⟨d, hd⟩ : ∃ d, n / 128 = d := ⟨_, rfl⟩
      rw [hd] at HC HLN HE
      rw [hy, hx] at HE
      have ht : Int.tmod (n : Int) 128 = (y : Int) := by rw [Int.tmod_eq_emod_of_nonneg (by omega)]; omega
      have hw1 : IntKind.u64.wrap (128 + (y : Int)) = (x : Int) := by rw [IntKind.wrap_u64]; omega
      have hw2 : IntKind.u8.wrap (x : Int) = (x : Int) := by rw [IntKind.wrap_u8]; omega
      have hw3 : IntKind.u64.wrap ((n : Int) / 128) = (d : Int) := by rw [IntKind.wrap_u64]; have := HN.out; omega
      have HX : Hid (x < 256) := by show x < 256; omega
      have hcat : (⟨#[UInt8.ofNat x]⟩ ++ ⟨(enc d).toArray⟩ : ByteArray) = ⟨(enc n).toArray⟩ := by
        apply ByteArray.ext
        apply Array.ext'
        rw [HE.out]
        simp [ByteArray.data_append]
      have hnl : ¬ 9223372036854775807 < 1 + (enc d).length := by have := HLN.out; omega
      clear hy hx hd
      refine wp_region_rho (fun (r : Nat) j => ([(.int .u64 (n : Int)), (.int .u64 (y : Int)), (.int .u64 (x : Int)), (.int .u8 (x : Int)), (.slice (some ⟨r, 0, none⟩) 1 1), (.string ⟨#[UInt8.ofNat x]⟩), (.int .u64 (n : Int)), (.int .u64 (d : Int)), (.string ⟨(enc d).toArray⟩), (.string ⟨(enc n).toArray⟩), (.string ⟨(enc n).toArray⟩)] : List Value).getD j undef) (fun r L w2 => Below w.heap.size w w2 ∧ (L.getD 4 false = true → w.heap.size ≤ r ∧ Holds w2 r 5 [.int .u8 (x : Int)])) [(0, 9), (1, 10), (2, 11), (3, 12), (4, 13), (5, 14), (6, 15), (7, 16), (8, 17), (9, 18), (10, 2)] 19 rfl (by kernel_rfl) (by kernel_rfl) (by kernel_rfl) 0 ⟨⟨rfl, rfl, rfl, Nat.le_refl _, fun _ _ => rfl⟩, fun h => by simp at h⟩ (fun i hi => ?_) (fun r w9 hW9 => ?_)
      · have hi2 : i < 11 := hi
        clear hi
        have hi3 : i = 0 ∨ i = 1 ∨ i = 2 ∨ i = 3 ∨ i = 4 ∨ i = 5 ∨ i = 6 ∨ i = 7 ∨ i = 8 ∨ i = 9 ∨ i = 10 := by omega
        clear hi2
        rcases hi3 with rfl | rfl | rfl | rfl | rfl | rfl | rfl | rfl | rfl | rfl | rfl
        · exact RhoOp.pure rfl (fun r L b w2 hl hR hW => by
            have h0 : b.eval (.tmp 0) = .int .u64 (n : Int) := (hR.old (by decide) (by kernel_rfl)).trans rfl
            simp only [Act.eval, Array.getD_eq_getD_getElem?] at h0
            show (execOp b.eval _).run _ _ = .ok (.value (.int .u64 (n : Int))) _
            unfold execOp
            simp [go_sem, h0]) (fun r L w2 hs h => by
            simp only [gd_ne (L := L) (i := 0) (j := 4) (by decide)]
            exact h)
        · exact RhoOp.pure rfl (fun r L b w2 hl hR hW => by
            have h9 : b.eval (.tmp 9) = .int .u64 (n : Int) := hR.of (j := 0) (by decide) (by kernel_rfl)
            simp only [Act.eval, Array.getD_eq_getD_getElem?] at h9
            show (execOp b.eval _).run _ _ = .ok (.value (.int .u64 (y : Int))) _
            unfold execOp
            simp [go_sem, h9, ht]) (fun r L w2 hs h => by
            simp only [gd_ne (L := L) (i := 1) (j := 4) (by decide)]
            exact h)
        · exact RhoOp.pure rfl (fun r L b w2 hl hR hW => by
            have h10 : b.eval (.tmp 10) = .int .u64 (y : Int) := hR.of (j := 1) (by decide) (by kernel_rfl)
            simp only [Act.eval, Array.getD_eq_getD_getElem?] at h10
            show (execOp b.eval _).run _ _ = .ok (.value (.int .u64 (x : Int))) _
            unfold execOp
            simp [go_sem, h10, hw1]) (fun r L w2 hs h => by
            simp only [gd_ne (L := L) (i := 2) (j := 4) (by decide)]
            exact h)
        · exact RhoOp.pure rfl (fun r L b w2 hl hR hW => by
            have h11 : b.eval (.tmp 11) = .int .u64 (x : Int) := hR.of (j := 2) (by decide) (by kernel_rfl)
            simp only [Act.eval, Array.getD_eq_getD_getElem?] at h11
            show (execOp b.eval _).run _ _ = .ok (.value (.int .u8 (x : Int))) _
            unfold execOp
            simp [go_sem, h11, hw2]) (fun r L w2 hs h => by
            simp only [gd_ne (L := L) (i := 3) (j := 4) (by decide)]
            exact h)
        · exact RhoOp.make rfl (fun r L b w2 hs hl hR hW => by
            have h12 : b.eval (.tmp 12) = .int .u8 (x : Int) := hR.of (j := 3) (by decide) (by kernel_rfl)
            simp only [Act.eval, Array.getD_eq_getD_getElem?] at h12
            refine ⟨w2.heap.size, w2.alloc (.cells #[.int .u8 (x : Int)] 5), ?_, ?_, ?_⟩
            · exact fun j hj => by
                have hj4 : j ≠ 4 := by rintro rfl; rw [hl] at hj; cases hj
                match j with
                | 0 | 1 | 2 | 3 | 5 | 6 | 7 | 8 | 9 | 10 => rfl
                | 4 => exact absurd rfl hj4
                | j + 11 => rfl
            · show (execOp b.eval _).run _ _ = .ok (.value (.slice (some ⟨(w2.heap.size), 0, none⟩) 1 1)) _
              unfold execOp
              simp [go_sem, h12]
            · exact ⟨hW.1.alloc hW.1.size _, fun _ => ⟨hW.1.size, Holds.new w2 5 #[.int .u8 (x : Int)]⟩⟩)
        · exact RhoOp.pure rfl (fun r L b w2 hl hR hW => by
            have hd4 := hR.done (j := 4) (s := 13) (by decide) (by kernel_rfl)
            obtain ⟨_, hH⟩ := hW.2 hd4
            have e := run_one_byte (P := Try.prog) w2 111 5 9 r x (by have := HX.out; omega) Try.underlying111 Try.underlying5 Try.underlying9 (hH.cell 0)
            have h13 : b.eval (.tmp 13) = .slice (some ⟨r, 0, none⟩) 1 1 := hR.of (j := 4) (by decide) (by kernel_rfl)
            simp only [Act.eval, Array.getD_eq_getD_getElem?] at h13
            show (execOp b.eval _).run _ _ = .ok (.value (.string ⟨#[UInt8.ofNat x]⟩)) _
            unfold execOp
            simp [go_sem, h13, e]) (fun r L w2 hs h => by
            simp only [gd_ne (L := L) (i := 5) (j := 4) (by decide)]
            exact h)
        · exact RhoOp.pure rfl (fun r L b w2 hl hR hW => by
            have h0 : b.eval (.tmp 0) = .int .u64 (n : Int) := (hR.old (by decide) (by kernel_rfl)).trans rfl
            simp only [Act.eval, Array.getD_eq_getD_getElem?] at h0
            show (execOp b.eval _).run _ _ = .ok (.value (.int .u64 (n : Int))) _
            unfold execOp
            simp [go_sem, h0]) (fun r L w2 hs h => by
            simp only [gd_ne (L := L) (i := 6) (j := 4) (by decide)]
            exact h)
        · exact RhoOp.pure rfl (fun r L b w2 hl hR hW => by
            have h15 : b.eval (.tmp 15) = .int .u64 (n : Int) := hR.of (j := 6) (by decide) (by kernel_rfl)
            simp only [Act.eval, Array.getD_eq_getD_getElem?] at h15
            show (execOp b.eval _).run _ _ = .ok (.value (.int .u64 (d : Int))) _
            unfold execOp
            simp [go_sem, h15, hw3]) (fun r L w2 hs h => by
            simp only [gd_ne (L := L) (i := 7) (j := 4) (by decide)]
            exact h)
        · exact RhoOp.call (f := 36) rfl (fun r L b w2 hs hl hR hW => by
            have h16 : b.eval (.tmp 16) = .int .u64 (d : Int) := hR.of (j := 7) (by decide) (by kernel_rfl)
            simp only [Act.eval, Array.getD_eq_getD_getElem?] at h16
            refine ⟨#[.int .u64 (d : Int)], ?_, ?_⟩
            · unfold execOp
              simp [go_sem, h16]
            · exact (HC.out w2).mono fun e w3 h => ⟨r, fun _ _ => rfl, h.1, by
                simp only [gd_ne (L := L) (i := 8) (j := 4) (by decide)]
                exact ⟨hW.1.trans (h.2.mono hW.1.size), fun h4 => ⟨(hW.2 h4).1, (hW.2 h4).2.belowAll h.2⟩⟩⟩)
        · exact RhoOp.pure rfl (fun r L b w2 hl hR hW => by
            have h14 : b.eval (.tmp 14) = .string ⟨#[UInt8.ofNat x]⟩ := hR.of (j := 5) (by decide) (by kernel_rfl)
            have h17 : b.eval (.tmp 17) = .string ⟨(enc d).toArray⟩ := hR.of (j := 8) (by decide) (by kernel_rfl)
            simp only [Act.eval, Array.getD_eq_getD_getElem?] at h14 h17
            show (execOp b.eval _).run _ _ = .ok (.value (.string ⟨(enc n).toArray⟩)) _
            unfold execOp
            simp [go_sem, h14, h17, hcat, hnl]) (fun r L w2 hs h => by
            simp only [gd_ne (L := L) (i := 9) (j := 4) (by decide)]
            exact h)
        · exact RhoOp.pure rfl (fun r L b w2 hl hR hW => by
            have h18 : b.eval (.tmp 18) = .string ⟨(enc n).toArray⟩ := hR.of (j := 9) (by decide) (by kernel_rfl)
            simp only [Act.eval, Array.getD_eq_getD_getElem?] at h18
            show (execOp b.eval _).run _ _ = .ok (.value (.string ⟨(enc n).toArray⟩)) _
            unfold execOp
            simp [go_sem, h18]) (fun r L w2 hs h => by
            simp only [gd_ne (L := L) (i := 10) (j := 4) (by decide)]
            exact h)
      · refine puts_as (ps := [(0, 9, .int .u64 (n : Int)), (1, 10, .int .u64 (y : Int)), (2, 11, .int .u64 (x : Int)), (3, 12, .int .u8 (x : Int)), (4, 13, .slice (some ⟨r, 0, none⟩) 1 1), (5, 14, .string ⟨#[UInt8.ofNat x]⟩), (6, 15, .int .u64 (n : Int)), (7, 16, .int .u64 (d : Int)), (8, 17, .string ⟨(enc d).toArray⟩), (9, 18, .string ⟨(enc n).toArray⟩), (10, 2, .string ⟨(enc n).toArray⟩)]) rfl ?_
        simp only [puts, Act.put, List.setIfInBounds_toArray, List.set_cons_zero, List.set_cons_succ]
        go_wp2
        go_ret
        exact ⟨rfl, hW9.1⟩
end Go.Proofs.Ytcedenoicmpjmaa
