/- A drawn statement 'f = together(f, ..)': what its operations keep. -/
import Derived.Test.YtcopoaaofjeklaaAtg
import Derived.Test.YtcopoaaofjeklaaMa2
namespace Go.Proofs.Ytcopoaaofjeklaa.G
open Go.RowKit
set_option linter.unusedVariables false
set_option linter.unusedSimpArgs false

def TwoR (lo : Nat) (f : PFoot) (r : Value × Value) (W : World) : Prop := RowL (From lo) W 1 r.1 f.reads.length (f.reads.map intV) ∧ RowL (From lo) W 1 r.2 f.writes.length (f.writes.map intV)
theorem TwoR.below {lo : Nat} {f : PFoot} {r : Value × Value} {W W' : World} (h : TwoR lo f r W) (hb : Below W.heap.size W W') : TwoR lo f r W' := ⟨h.1.up (Keep.below hb), h.2.up (Keep.below hb)⟩
structure AccW (w5 : World) (b i0 i8 i9 i10 : Nat) (f1 f2 f3 : PFoot) (ur uw : Value) (r : (Value × Value) × Value × Value) (L : Array Bool) (w2 : World) : Prop where
  fr : Fr (fun q => q = b) w5 w2
  c : L.getD i8 false = true → TwoR w5.heap.size f2 r.1 w2
  t : L.getD i9 false = true → TwoR w5.heap.size f3 r.2 w2
  box : Holds w2 b 25 (if L.getD i10 false = true then [r.2.1, r.2.2, .int .u64 (f3.turns : Int)] else [ur, uw, .int .u64 (f1.turns : Int)])
  o1 : L.getD i10 false = true → L.getD i9 false = true
  o2 : L.getD i9 false = true → L.getD i8 false = true ∧ L.getD i0 false = true
  lt : b < w5.heap.size
  ne : i0 ≠ i8 ∧ i0 ≠ i9 ∧ i0 ≠ i10 ∧ i8 ≠ i9 ∧ i8 ≠ i10 ∧ i9 ≠ i10
section
variable {w5 : World} {b i0 i8 i9 i10 : Nat} {f1 f2 f3 : PFoot} {ur uw : Value} {r : (Value × Value) × Value × Value} {L : Array Bool} {w2 w4 : World}
theorem AccW.start (hb : Holds w5 b 25 [ur, uw, .int .u64 (f1.turns : Int)]) (n : Nat) (ne : i0 ≠ i8 ∧ i0 ≠ i9 ∧ i0 ≠ i10 ∧ i8 ≠ i9 ∧ i8 ≠ i10 ∧ i9 ≠ i10) : AccW w5 b i0 i8 i9 i10 f1 f2 f3 ur uw r (Array.replicate n false) w5.drew := by
  have hf : ∀ i, (Array.replicate n false).getD i false = false := fun i => by
    rw [Array.getD_eq_getD_getElem?, Array.getElem?_replicate]
    split <;> rfl
  exact ⟨(Fr.refl _ w5).drew, fun h => (by rw [hf] at h; cases h), fun h => (by rw [hf] at h; cases h), by rw [hf]; exact hb, fun h => (by rw [hf] at h; cases h), fun h => (by rw [hf] at h; cases h), hb.lt, ne⟩
theorem AccW.pure {i : Nat} (n0 : i ≠ i0) (n8 : i ≠ i8) (n9 : i ≠ i9) (n10 : i ≠ i10) (h : AccW w5 b i0 i8 i9 i10 f1 f2 f3 ur uw r L w2) : AccW w5 b i0 i8 i9 i10 f1 f2 f3 ur uw r (L.setIfInBounds i true) w2 :=
  ⟨h.fr, by rw [gd_ne n8.symm]; exact h.c, by rw [gd_ne n9.symm]; exact h.t, by rw [gd_ne n10.symm]; exact h.box, by rw [gd_ne n10.symm, gd_ne n9.symm]; exact h.o1, by rw [gd_ne n9.symm, gd_ne n8.symm, gd_ne n0.symm]; exact h.o2, h.lt, h.ne⟩
theorem AccW.load (hs : i0 < L.size) (h : AccW w5 b i0 i8 i9 i10 f1 f2 f3 ur uw r L w2) : AccW w5 b i0 i8 i9 i10 f1 f2 f3 ur uw r (L.setIfInBounds i0 true) w2 := by
  obtain ⟨a1, a2, a3, a4, a5, a6⟩ := h.ne
  exact ⟨h.fr, by rw [gd_ne a1.symm]; exact h.c, by rw [gd_ne a2.symm]; exact h.t, by rw [gd_ne a3.symm]; exact h.box, by rw [gd_ne a3.symm, gd_ne a2.symm]; exact h.o1, by rw [gd_ne a2.symm, gd_ne a1.symm, gd_eq hs]; exact fun q => ⟨(h.o2 q).1, rfl⟩, h.lt, h.ne⟩
theorem AccW.n10 (h : AccW w5 b i0 i8 i9 i10 f1 f2 f3 ur uw r L w2) (hl : L.getD i0 false = false ∨ L.getD i8 false = false ∨ L.getD i9 false = false) : L.getD i10 false = false := by
  cases hq : L.getD i10 false with
  | false => rfl
  | true =>
    have h2 := h.o1 hq
    obtain ⟨h3, h1⟩ := h.o2 h2
    rcases hl with hl | hl | hl
    · rw [h1] at hl; cases hl
    · rw [h3] at hl; cases hl
    · rw [h2] at hl; cases hl
theorem AccW.n9 (h : AccW w5 b i0 i8 i9 i10 f1 f2 f3 ur uw r L w2) (hl : L.getD i8 false = false) : L.getD i9 false = false := by
  cases hq : L.getD i9 false with
  | false => rfl
  | true => have h3 := (h.o2 hq).1; rw [h3] at hl; cases hl
theorem AccW.call {v : Value × Value} (hs : i8 < L.size) (h : AccW w5 b i0 i8 i9 i10 f1 f2 f3 ur uw r L w2) (hl : L.getD i8 false = false) (hb : Below w2.heap.size w2 w4) (h1 : TwoR w2.heap.size f2 v w4) : AccW w5 b i0 i8 i9 i10 f1 f2 f3 ur uw (v, r.2) (L.setIfInBounds i8 true) w4 := by
  obtain ⟨a1, a2, a3, a4, a5, a6⟩ := h.ne
  have q9 := h.n9 hl
  have q10 := h.n10 (.inr (.inl hl))
  have hx := h.box
  rw [q10] at hx
  refine ⟨h.fr.trans (Fr.of_below hb (fun q => q = b)) fun _ _ h => h, fun _ => ⟨h1.1.mono (Wide.from h.fr.size), h1.2.mono (Wide.from h.fr.size)⟩, fun q => ?_, ?_, fun q => ?_, fun q => ?_, h.lt, h.ne⟩
  · rw [gd_ne a4.symm, q9] at q; cases q
  · rw [gd_ne a5.symm, q10]; exact hx.belowAll hb
  · rw [gd_ne a5.symm, q10] at q; cases q
  · rw [gd_ne a4.symm, q9] at q; cases q
theorem AccW.tog {v : Value × Value} (hs : i9 < L.size) (h : AccW w5 b i0 i8 i9 i10 f1 f2 f3 ur uw r L w2) (hl : L.getD i9 false = false) (h8 : L.getD i8 false = true) (h0 : L.getD i0 false = true) (hb : Below w2.heap.size w2 w4) (h1 : TwoR w2.heap.size f3 v w4) : AccW w5 b i0 i8 i9 i10 f1 f2 f3 ur uw (r.1, v) (L.setIfInBounds i9 true) w4 := by
  obtain ⟨a1, a2, a3, a4, a5, a6⟩ := h.ne
  have q10 := h.n10 (.inr (.inr hl))
  have hx := h.box
  rw [q10] at hx
  refine ⟨h.fr.trans (Fr.of_below hb (fun q => q = b)) fun _ _ h => h, fun q => ?_, fun _ => ⟨h1.1.mono (Wide.from h.fr.size), h1.2.mono (Wide.from h.fr.size)⟩, ?_, fun q => ?_, fun q => ?_, h.lt, h.ne⟩
  · exact (h.c h8).below hb
  · rw [gd_ne a6.symm, q10]; exact hx.belowAll hb
  · rw [gd_ne a6.symm, q10] at q; cases q
  · rw [gd_ne a4, gd_ne a2]; exact ⟨h8, h0⟩
theorem AccW.old (h : AccW w5 b i0 i8 i9 i10 f1 f2 f3 ur uw r L w2) (hl : L.getD i0 false = false ∨ L.getD i8 false = false ∨ L.getD i9 false = false ∨ L.getD i10 false = false) : Holds w2 b 25 [ur, uw, .int .u64 (f1.turns : Int)] := by
  have q10 : L.getD i10 false = false := by
    rcases hl with hl | hl | hl | hl
    · exact h.n10 (.inl hl)
    · exact h.n10 (.inr (.inl hl))
    · exact h.n10 (.inr (.inr hl))
    · exact hl
  have hx := h.box
  rw [q10] at hx
  exact hx
theorem AccW.store (hs : i10 < L.size) (h : AccW w5 b i0 i8 i9 i10 f1 f2 f3 ur uw r L w2) (hl : L.getD i10 false = false) (h9 : L.getD i9 false = true) (hW : w4 = setR w2 b 0 [r.2.1, r.2.2, .int .u64 (f3.turns : Int)]) : AccW w5 b i0 i8 i9 i10 f1 f2 f3 ur uw r (L.setIfInBounds i10 true) w4 := by
  obtain ⟨a1, a2, a3, a4, a5, a6⟩ := h.ne
  have hf : Fr (fun q => q = b) w2 w4 := by rw [hW]; exact Fr.setRX _ _ 0 _
  have hx := h.old (.inr (.inr (.inr hl)))
  have h5 := hx.stored hW (Nat.le_of_ble_eq_true rfl)
  refine ⟨h.fr.trans hf fun _ _ h => h, fun q => ?_, fun q => ?_, ?_, fun q => ?_, fun q => ?_, h.lt, h.ne⟩
  · rw [gd_ne a5] at q
    exact ⟨row_fr (h.c q).1 hf h.lt, row_fr (h.c q).2 hf h.lt⟩
  · exact ⟨row_fr (h.t h9).1 hf h.lt, row_fr (h.t h9).2 hf h.lt⟩
  · rw [gd_eq hs, if_pos rfl]; exact h5
  · rw [gd_ne a6]; exact h9
  · rw [gd_ne a5, gd_ne a3]
    rw [gd_ne a6] at q
    exact h.o2 q
theorem AccW.done {n : Nat} (h : AccW w5 b i0 i8 i9 i10 f1 f2 f3 ur uw r (Array.replicate n true) w2) (h9 : i9 < n) (h10 : i10 < n) : Fr (fun q => q = b) w5 w2 ∧ Holds w2 b 25 [r.2.1, r.2.2, .int .u64 (f3.turns : Int)] ∧ TwoR w5.heap.size f3 r.2 w2 := by
  have e9 : (Array.replicate n true).getD i9 false = true := by rw [Array.getD_eq_getD_getElem?, Array.getElem?_replicate, if_pos h9]; rfl
  have e10 : (Array.replicate n true).getD i10 false = true := by rw [Array.getD_eq_getD_getElem?, Array.getElem?_replicate, if_pos h10]; rfl
  have hx := h.box
  rw [e10, if_pos rfl] at hx
  exact ⟨h.fr, hx, h.t e9⟩
end
end Go.Proofs.Ytcopoaaofjeklaa.G
