/- Own, Rnum, Rdec, Rnums, Rchk, Rmv, joined. -/
import Derived.Test.YtokkjifmgmngjaaOwm
import Derived.Test.YtokkjifmgmngjaaEnc
import Derived.Test.YtokkjifmgmngjaaRho
import Derived.Test.YtokkjifmgmngjaaNums
import Derived.Test.YtokkjifmgmngjaaChk
section
/- The walk of the statements' own: a graph copied whole. -/
namespace Go.Proofs.Ytokkjifmgmngjaa
open Go.RowKit
set_option linter.unusedVariables false
set_option linter.unusedSimpArgs false

def OwnPost (N : PNet) (w : World) (e : Ending) (w' : World) : Prop := Below w.heap.size w w' ∧ ∃ vn, e = .returned (.agg #[vn]) ∧ NetV (From w.heap.size) w' vn N ∧ (0 < N.length → SN (From w.heap.size) w' vn)
theorem SN.up {R : Nat → Prop} {w w' : World} (hu : Keep R w w') {v : Value} (h : SN R w v) : SN R w' v := by
  obtain ⟨g, n, c, cs, h1, h2, h3, h4, h5, h6, h7⟩ := h
  exact ⟨g, n, c, cs, h1, h2, h3, h4, h5.of_eq (hu g h4 h5.lt), h6, fun i hi => by obtain ⟨va, q1, q2⟩ := h7 i hi; exact ⟨va, q1, q2.up hu⟩⟩
theorem SN.mono {R R' : Nat → Prop} {w : World} (hl : Wide R R' w) {v : Value} (h : SN R w v) : SN R' w v := by
  obtain ⟨g, n, c, cs, h1, h2, h3, h4, h5, h6, h7⟩ := h
  exact ⟨g, n, c, cs, h1, h2, h3, hl g h4 h5.lt, h5, h6, fun i hi => by obtain ⟨va, q1, q2⟩ := h7 i hi; exact ⟨va, q1, q2.mono hl⟩⟩
theorem LsF.imp {A : Type} {F G : (Nat → Prop) → World → A → List Value → Prop} {P Q : Nat → Prop} {w : World} (hF : ∀ a c, F P w a c → G Q w a c) : ∀ (l : List A) {f : List Value}, LsF F P w l f → LsF G Q w l f
  | [], f, h => h
  | a :: l, f, ⟨c, r, h1, h2, h3⟩ => ⟨c, r, h1, hF a c h2, LsF.imp hF l h3⟩
theorem netG {P : Nat → Prop} {w : World} {l : PNet} {v : Value} {base S : Nat} {fo : List Value} (hr : w.ownsRow S 51 5 v l.length fo) (hfo : LsF NodeG P w l fo) (hP : ∀ k, P k → base ≤ k) (hS : base ≤ S) (hn : l.length ≤ 1000000000) : NetV (From base) w v l ∧ (0 < l.length → SN (From base) w v) := by
  refine ⟨⟨fo, RowL.of_owns hr fun k hk => Nat.le_trans hS hk, LsF.imp (fun _ _ h => h.1.mono fun k hk _ => hP k hk) _ hfo⟩, fun hpos => ?_⟩
  have hlen := hr.1
  rcases hr.2 with ⟨_, h0⟩ | ⟨g, cap, cur, rfl, hb, hg, hnc, hcm, hcs, ht⟩
  · omega
  · refine ⟨g, _, _, cur.toList, rfl, hnc, hn, Nat.le_trans hS hb, by unfold Holds; simpa using hg, by
      have h7 := Nat.mul_le_mul_right 5 hnc
      rw [← hcs] at h7
      simpa using h7, fun i hi => ?_⟩
    obtain ⟨c, h1, h2⟩ := LsF.at (fun a c => oneNodeG.len) hi hfo
    obtain ⟨va, h3, h4⟩ := h1.2
    refine ⟨va, ?_, h4.mono fun k hk _ => hP k hk⟩
    have h5 := h2 0 (by omega)
    rw [h3, Nat.add_zero] at h5
    rw [← h5, ← ht, List.getElem?_take_of_lt (by omega)]
theorem ls_one {A : Type} {F : (Nat → Prop) → World → A → List Value → Prop} {n : Nat} (H : One F n) {P : Nat → Prop} {w : World} : ∀ {l : List A} {f : List Value}, LsF F P w l f → ∀ u ∈ f, u.oneCell' = true
  | [], f, h, u, hu => by
    obtain rfl := h
    cases hu
  | a :: l, f, ⟨c, r, h1, h2, h3⟩, u, hu => by
    rw [h1] at hu
    rcases List.mem_append.1 hu with hu | hu
    · exact List.all_eq_true.1 (H.one h2) u hu
    · exact ls_one H h3 u hu
end Go.Proofs.Ytokkjifmgmngjaa
end
section
/- The walk of the document's Number. -/
namespace Go.Proofs.Ytokkjifmgmngjaa
open Go.RowKit
set_option linter.unusedVariables false
set_option linter.unusedSimpArgs false

theorem run_one_byte {P : Program} (w : World) (t e dst : TypeId) (b : Nat) (n : Nat) (hn : n < 256) (ht : P.underlying t = some (.slice e)) (he : P.underlying e = some (.int .u8)) (hd : P.underlying dst = some .string)
    (h : w.cell? ⟨b, 0, none⟩ = some (.int .u8 (n : Int))) : (convert t dst (.slice (some ⟨b, 0, none⟩) 1 1)).run P w = .ok (.string ⟨#[UInt8.ofNat n]⟩) w := by
  have := run_convert_bytes_back (P := P) w t dst e ⟨b, 0, none⟩ 1 [UInt8.ofNat n] ht he hd (fun j hj => by
    have : j = 0 := by simpa using hj
    subst this
    have h2 : (⟨b, 0, none⟩ : Addr).add 0 = ⟨b, 0, none⟩ := rfl
    rw [h2, h]
    show _ = some (Value.int .u8 ((UInt8.ofNat n).toNat : Int))
    rw [u8_of hn])
  simpa using this
def NumPost (n : Nat) (w : World) (e : Ending) (w' : World) : Prop := e = .returned (.string ⟨(enc n).toArray⟩) ∧ Below w.heap.size w w'
end Go.Proofs.Ytokkjifmgmngjaa
end
section
/- Bytes as numbers: the document's reader (printed by mkrdec.py). -/
namespace Go.Proofs.Ytokkjifmgmngjaa
open Go.RowKit
set_option linter.unusedVariables false
set_option linter.unusedSimpArgs false

theorem sum_fit {m y k : Nat} (h : k ≤ 9) (hm : m < 128 ^ k) (hy : y ≤ 127 ∧ (k = 9 → y ≤ 1)) : m + y * 128 ^ k < 18446744073709551616 := by
  have h1 : k = 0 ∨ k = 1 ∨ k = 2 ∨ k = 3 ∨ k = 4 ∨ k = 5 ∨ k = 6 ∨ k = 7 ∨ k = 8 ∨ k = 9 := by omega
  rcases h1 with rfl | rfl | rfl | rfl | rfl | rfl | rfl | rfl | rfl | rfl <;> simp at hy hm ⊢ <;> omega
end Go.Proofs.Ytokkjifmgmngjaa
end
section
/- Bytes as numbers: the document's Uint, Numbers (printed by mkrnums.py). -/
namespace Go.Proofs.Ytokkjifmgmngjaa
open Go.RowKit
set_option linter.unusedVariables false
set_option linter.unusedSimpArgs false

/-- What stands in a number's answer. -/
def dnN : Dn → Nat | .ok n _ => n | _ => 0
def dnK : Dn → Nat | .ok _ k => k | _ => 0
def dnC : Dn → Nat | .ok _ _ => 0 | .cut => 10 | .form => 11
end Go.Proofs.Ytokkjifmgmngjaa
end
section
/- The walk of the document's Check (printed by mkrchk.py). -/
namespace Go.Proofs.Ytokkjifmgmngjaa
open Go.RowKit
set_option linter.unusedVariables false
set_option linter.unusedSimpArgs false

end Go.Proofs.Ytokkjifmgmngjaa
end
section
/- The walks of the reference's Move, copies, Bytes; the statements' pick. -/
namespace Go.Proofs.Ytokkjifmgmngjaa
open Go.RowKit
set_option linter.unusedVariables false
set_option linter.unusedSimpArgs false

set_option maxHeartbeats 4000000 in
set_option maxRecDepth 100000 in
theorem moveFn {P P' : Nat → Prop} {w : World} {k : Nat} {a : PArc} {s : ByteArray} {vr vw vr' vw' : Value} (h1 : RowL P w 1 vr a.reads.length (a.reads.map intV)) (h2 : RowL P w 1 vw a.writes.length (a.writes.map intV)) (h3 : RowL P' w 1 vr' a.reads.length (a.reads.map intV)) (h4 : RowL P' w 1 vw' a.writes.length (a.writes.map intV)) (hn : a.reads.length ≤ 2000000 ∧ a.writes.length ≤ 2000000) :
    Calls Try.prog 10 #[.agg (mvC k a s vr vw).toArray, .agg (mvC k a s vr' vw').toArray] w (Yes w) := by
  obtain ⟨a1, c1, rfl, _, _, _⟩ := h1.form
  obtain ⟨a2, c2, rfl, _, _, _⟩ := h2.form
  obtain ⟨a3, c3, rfl, _, _, _⟩ := h3.form
  obtain ⟨a4, c4, rfl, _, _, _⟩ := h4.form
  obtain ⟨w1, hw1⟩ : ∃ W, W = (w.alloc (.cells #[.int .i64 a.proc, .int .i64 (k : Int), .int .i64 (-1), .int .i64 (-1), .string s, .int .i64 a.bad, .slice a1 a.reads.length c1, .slice a2 a.writes.length c2, .int .u64 (a.turns : Int)] 44)).alloc (.cells #[.int .i64 a.proc, .int .i64 (k : Int), .int .i64 (-1), .int .i64 (-1), .string s, .int .i64 a.bad, .slice a3 a.reads.length c3, .slice a4 a.writes.length c4, .int .u64 (a.turns : Int)] 44) := ⟨_, rfl⟩
  have hb1 : Below w.heap.size w w1 := by rw [hw1]; exact ((Below.refl _ _).alloc (Nat.le_refl _) _).alloc (by simp) _
  have d1 : Holds w1 w.heap.size 44 (mvC k a s (.slice a1 a.reads.length c1) (.slice a2 a.writes.length c2)) := by
    rw [hw1]
    exact (Holds.new w 44 (mvC k a s (.slice a1 a.reads.length c1) (.slice a2 a.writes.length c2)).toArray).alloc _
  have d2 : Holds w1 (w.heap.size + 1) 44 (mvC k a s (.slice a3 a.reads.length c3) (.slice a4 a.writes.length c4)) := by
    have h := Holds.new (w.alloc (.cells (mvC k a s (.slice a1 a.reads.length c1) (.slice a2 a.writes.length c2)).toArray 44)) 44 (mvC k a s (.slice a3 a.reads.length c3) (.slice a4 a.writes.length c4)).toArray
    simp only [World.size_alloc] at h
    rw [hw1]
    exact h
  have HB1 := Lib.hid hb1
  have D1 := Lib.hid d1
  have D2 := Lib.hid d2
  have H1 := Lib.hid (h1.up (Keep.below hb1))
  have H2 := Lib.hid (h2.up (Keep.below hb1))
  have H3 := Lib.hid (h3.up (Keep.below hb1))
  have H4 := Lib.hid (h4.up (Keep.below hb1))
  have e6 := d1.cell 6
  have f6 := d2.cell 6
  simp only [mvC, List.getElem?_cons_zero, List.getElem?_cons_succ] at e6 f6 ⊢
  rw [hw1] at e6 f6
  clear hb1 d1 d2 h1 h2 h3 h4
  go_enter Try.func10, Try.ntmps10
  go_wp2_with (fail)
  rw [← hw1]
  clear hw1 e6 f6
  refine (sameFn H1.out H3.out hn.1).mono ?_
  rintro e w2 ⟨rfl, hb2⟩
  have e7 := (D1.out.belowAll hb2).cell 7
  have f7 := (D2.out.belowAll hb2).cell 7
  simp only [mvC, List.getElem?_cons_zero, List.getElem?_cons_succ] at e7 f7
  have H22 := Lib.hid (H2.out.up (Keep.below hb2))
  have H42 := Lib.hid (H4.out.up (Keep.below hb2))
  have HB2 : Hid (Below w.heap.size w w2) := HB1.out.trans (hb2.mono HB1.out.size)
  have D12 := Lib.hid (D1.out.belowAll hb2)
  have D22 := Lib.hid (D2.out.belowAll hb2)
  clear hb2 D1 D2 H2 H4
  go_wp2_with (fail)
  refine (sameFn H22.out H42.out hn.2).mono ?_
  rintro e w3 ⟨rfl, hb3⟩
  have E := D12.out.belowAll hb3
  have G := D22.out.belowAll hb3
  have e0 := E.cell 0
  have e1 := E.cell 1
  have e2 := E.cell 2
  have e3 := E.cell 3
  have e4 := E.cell 4
  have e5 := E.cell 5
  have e8 := E.cell 8
  have g0 := G.cell 0
  have g1 := G.cell 1
  have g2 := G.cell 2
  have g3 := G.cell 3
  have g4 := G.cell 4
  have g5 := G.cell 5
  have g8 := G.cell 8
  simp only [mvC, List.getElem?_cons_zero, List.getElem?_cons_succ] at e0 e1 e2 e3 e4 e5 e8 g0 g1 g2 g3 g4 g5 g8
  have HB3 : Hid (Below w.heap.size w w3) := HB2.out.trans (hb3.mono HB2.out.size)
  clear hb3 E G e7 f7
  go_wp2
  go_ret
  exact ⟨rfl, HB3.out⟩
def CopiesPost (l : List Int) (w : World) (e : Ending) (w' : World) : Prop := Below w.heap.size w w' ∧ ∃ v, e = .returned v ∧ RowX w.heap.size w' v l
theorem key_add (m : Nat) : (⟨#[]⟩ : ByteArray) ++ ⟨(enc m).toArray⟩ = keyS m := by
  apply ByteArray.ext
  simp [keyS, ByteArray.append_eq]
end Go.Proofs.Ytokkjifmgmngjaa
end
