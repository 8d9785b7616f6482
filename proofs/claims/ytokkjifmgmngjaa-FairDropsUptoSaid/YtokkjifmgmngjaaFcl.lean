/- What lies in memory while the rows of a move in a box are cloned. -/
import Derived.Test.YtokkjifmgmngjaaFab
import Derived.Test.YtokkjifmgmngjaaRhi
namespace Go.Proofs.Ytokkjifmgmngjaa.G
open Go.RowKit Go.Maps
set_option linter.unusedVariables false
set_option linter.unusedSimpArgs false

structure ClW (wa : World) (b lo : Nat) (m : PMove) (vr vw : Value) (r : Value × Value) (L : Array Bool) (w2 : World) : Prop where
  fr : Fr (fun q => q = b) wa w2
  c1 : L.getD 2 false = true → RowX lo w2 r.1 m.reads
  c2 : L.getD 5 false = true → RowX lo w2 r.2 m.writes
  box : Holds w2 b 44 (mvC m (if L.getD 7 false = true then r.1 else vr) (if L.getD 9 false = true then r.2 else vw))
  o7 : L.getD 7 false = true → L.getD 2 false = true
  o2 : L.getD 2 false = true → L.getD 1 false = true
  o9 : L.getD 9 false = true → L.getD 5 false = true
  o5 : L.getD 5 false = true → L.getD 4 false = true
section
variable {wa w2 w4 : World} {b lo : Nat} {m : PMove} {vr vw : Value} {r : Value × Value} {L : Array Bool}
theorem ClW.start (hb : Holds wa b 44 (mvC m vr vw)) (n : Nat) : ClW wa b lo m vr vw r (Array.replicate n false) wa.drew := by
  have hf : ∀ i, (Array.replicate n false).getD i false = false := fun i => by
    rw [Array.getD_eq_getD_getElem?, Array.getElem?_replicate]
    split <;> rfl
  refine ⟨(Fr.refl _ wa).drew, ?_, ?_, ?_, ?_, ?_, ?_, ?_⟩ <;> simp only [hf]
  · exact fun h => by cases h
  · exact fun h => by cases h
  · exact hb
  all_goals exact fun h => by cases h
theorem ClW.pure {i : Nat} (n1 : i ≠ 1) (n2 : i ≠ 2) (n4 : i ≠ 4) (n5 : i ≠ 5) (n7 : i ≠ 7) (n9 : i ≠ 9) (h : ClW wa b lo m vr vw r L w2) : ClW wa b lo m vr vw r (L.setIfInBounds i true) w2 := by
  refine ⟨h.fr, ?_, ?_, ?_, ?_, ?_, ?_, ?_⟩ <;> simp only [gd_ne n1.symm, gd_ne n2.symm, gd_ne n4.symm, gd_ne n5.symm, gd_ne n7.symm, gd_ne n9.symm]
  · exact h.c1
  · exact h.c2
  · exact h.box
  · exact h.o7
  · exact h.o2
  · exact h.o9
  · exact h.o5
theorem ClW.load1 (hs : 1 < L.size) (h : ClW wa b lo m vr vw r L w2) : ClW wa b lo m vr vw r (L.setIfInBounds 1 true) w2 := by
  refine ⟨h.fr, ?_, ?_, ?_, ?_, ?_, ?_, ?_⟩ <;> simp only [gd_ne (L := L) (i := 1) (j := 2) (by decide), gd_ne (L := L) (i := 1) (j := 4) (by decide), gd_ne (L := L) (i := 1) (j := 5) (by decide), gd_ne (L := L) (i := 1) (j := 7) (by decide), gd_ne (L := L) (i := 1) (j := 9) (by decide), gd_eq hs]
  · exact h.c1
  · exact h.c2
  · exact h.box
  · exact h.o7
  · exact fun _ => trivial
  · exact h.o9
  · exact h.o5
theorem ClW.load4 (hs : 4 < L.size) (h : ClW wa b lo m vr vw r L w2) : ClW wa b lo m vr vw r (L.setIfInBounds 4 true) w2 := by
  refine ⟨h.fr, ?_, ?_, ?_, ?_, ?_, ?_, ?_⟩ <;> simp only [gd_ne (L := L) (i := 4) (j := 2) (by decide), gd_ne (L := L) (i := 4) (j := 1) (by decide), gd_ne (L := L) (i := 4) (j := 5) (by decide), gd_ne (L := L) (i := 4) (j := 7) (by decide), gd_ne (L := L) (i := 4) (j := 9) (by decide), gd_eq hs]
  · exact h.c1
  · exact h.c2
  · exact h.box
  · exact h.o7
  · exact h.o2
  · exact h.o9
  · exact fun _ => trivial
theorem off {b : Bool} (h : b = true → False) : b = false := by cases b with | false => rfl | true => exact (h rfl).elim
theorem ClW.n7 (h : ClW wa b lo m vr vw r L w2) (hl : L.getD 1 false = false ∨ L.getD 2 false = false) : L.getD 7 false = false := off fun q => by
  have q2 := h.o7 q
  have q1 := h.o2 q2
  rcases hl with hl | hl
  · rw [q1] at hl; cases hl
  · rw [q2] at hl; cases hl
theorem ClW.n9 (h : ClW wa b lo m vr vw r L w2) (hl : L.getD 4 false = false ∨ L.getD 5 false = false) : L.getD 9 false = false := off fun q => by
  have q2 := h.o9 q
  have q1 := h.o5 q2
  rcases hl with hl | hl
  · rw [q1] at hl; cases hl
  · rw [q2] at hl; cases hl
theorem ClW.cell6 (h : ClW wa b lo m vr vw r L w2) (hl : L.getD 1 false = false) : w2.cell? ⟨b, 6, none⟩ = some vr := by
  have e := h.box.cell 6
  rw [h.n7 (.inl hl)] at e
  exact e
theorem ClW.cell7 (h : ClW wa b lo m vr vw r L w2) (hl : L.getD 4 false = false) : w2.cell? ⟨b, 7, none⟩ = some vw := by
  have e := h.box.cell 7
  rw [h.n9 (.inl hl)] at e
  exact e
theorem ClW.call2 {v : Value} (hs : 2 < L.size) (h : ClW wa b lo m vr vw r L w2) (hl : L.getD 2 false = false) (h1 : L.getD 1 false = true) (hb : Below w2.heap.size w2 w4) (hv : RowX lo w4 v m.reads) : ClW wa b lo m vr vw (v, r.2) (L.setIfInBounds 2 true) w4 := by
  have q7 := h.n7 (.inr hl)
  have hx := h.box
  refine ⟨h.fr.trans (Fr.of_below hb (fun q => q = b)) fun _ _ h => h, ?_, ?_, ?_, ?_, ?_, ?_, ?_⟩ <;> simp only [gd_ne (L := L) (i := 2) (j := 1) (by decide), gd_ne (L := L) (i := 2) (j := 4) (by decide), gd_ne (L := L) (i := 2) (j := 5) (by decide), gd_ne (L := L) (i := 2) (j := 7) (by decide), gd_ne (L := L) (i := 2) (j := 9) (by decide), gd_eq hs]
  · exact fun _ => hv
  · exact fun q => (h.c2 q).below hb
  · rw [q7] at hx ⊢; exact hx.belowAll hb
  · exact fun _ => trivial
  · exact fun _ => h1
  · exact h.o9
  · exact h.o5
theorem ClW.call5 {v : Value} (hs : 5 < L.size) (h : ClW wa b lo m vr vw r L w2) (hl : L.getD 5 false = false) (h1 : L.getD 4 false = true) (hb : Below w2.heap.size w2 w4) (hv : RowX lo w4 v m.writes) : ClW wa b lo m vr vw (r.1, v) (L.setIfInBounds 5 true) w4 := by
  have q9 := h.n9 (.inr hl)
  have hx := h.box
  refine ⟨h.fr.trans (Fr.of_below hb (fun q => q = b)) fun _ _ h => h, ?_, ?_, ?_, ?_, ?_, ?_, ?_⟩ <;> simp only [gd_ne (L := L) (i := 5) (j := 1) (by decide), gd_ne (L := L) (i := 5) (j := 4) (by decide), gd_ne (L := L) (i := 5) (j := 2) (by decide), gd_ne (L := L) (i := 5) (j := 7) (by decide), gd_ne (L := L) (i := 5) (j := 9) (by decide), gd_eq hs]
  · exact fun q => (h.c1 q).below hb
  · exact fun _ => hv
  · rw [q9] at hx ⊢; exact hx.belowAll hb
  · exact h.o7
  · exact h.o2
  · exact fun _ => trivial
  · exact fun _ => h1
theorem ClW.store7 (hs : 7 < L.size) (h : ClW wa b lo m vr vw r L w2) (hl : L.getD 7 false = false) (h2 : L.getD 2 false = true) (hW : w4 = setR w2 b 6 [r.1]) : ClW wa b lo m vr vw r (L.setIfInBounds 7 true) w4 := by
  have hf : Fr (fun q => q = b) w2 w4 := by rw [hW]; exact Fr.setRX _ _ 6 _
  have hx := h.box
  have h5 := hx.stored hW (Nat.le_of_ble_eq_true rfl)
  refine ⟨h.fr.trans hf fun _ _ h => h, ?_, ?_, ?_, ?_, ?_, ?_, ?_⟩ <;> simp only [gd_ne (L := L) (i := 7) (j := 1) (by decide), gd_ne (L := L) (i := 7) (j := 4) (by decide), gd_ne (L := L) (i := 7) (j := 2) (by decide), gd_ne (L := L) (i := 7) (j := 5) (by decide), gd_ne (L := L) (i := 7) (j := 9) (by decide), gd_eq hs]
  · exact fun q => (h.c1 q).store hx hf
  · exact fun q => (h.c2 q).store hx hf
  · exact h5
  · exact fun _ => h2
  · exact h.o2
  · exact h.o9
  · exact h.o5
theorem ClW.store9 (hs : 9 < L.size) (h : ClW wa b lo m vr vw r L w2) (hl : L.getD 9 false = false) (h2 : L.getD 5 false = true) (hW : w4 = setR w2 b 7 [r.2]) : ClW wa b lo m vr vw r (L.setIfInBounds 9 true) w4 := by
  have hf : Fr (fun q => q = b) w2 w4 := by rw [hW]; exact Fr.setRX _ _ 7 _
  have hx := h.box
  have h5 := hx.stored hW (Nat.le_of_ble_eq_true rfl)
  refine ⟨h.fr.trans hf fun _ _ h => h, ?_, ?_, ?_, ?_, ?_, ?_, ?_⟩ <;> simp only [gd_ne (L := L) (i := 9) (j := 1) (by decide), gd_ne (L := L) (i := 9) (j := 4) (by decide), gd_ne (L := L) (i := 9) (j := 2) (by decide), gd_ne (L := L) (i := 9) (j := 5) (by decide), gd_ne (L := L) (i := 9) (j := 7) (by decide), gd_eq hs]
  · exact fun q => (h.c1 q).store hx hf
  · exact fun q => (h.c2 q).store hx hf
  · exact h5
  · exact h.o7
  · exact h.o2
  · exact fun _ => h2
  · exact h.o5
theorem ClW.done {n : Nat} (h : ClW wa b lo m vr vw r (Array.replicate n true) w2) (hn : 9 < n) : Fr (fun q => q = b) wa w2 ∧ Holds w2 b 44 (mvC m r.1 r.2) ∧ RowX lo w2 r.1 m.reads ∧ RowX lo w2 r.2 m.writes := by
  have e : ∀ i, i < n → (Array.replicate n true).getD i false = true := fun i hi => by rw [Array.getD_eq_getD_getElem?, Array.getElem?_replicate, if_pos hi]; rfl
  have hx := h.box
  rw [e 7 (by omega), e 9 (by omega), if_pos rfl, if_pos rfl] at hx
  exact ⟨h.fr, hx, h.c1 (e 2 (by omega)), h.c2 (e 5 (by omega))⟩
theorem ClW.rows (h : ClW wa b lo m vr vw r L w2) (hx : Holds wa b 44 (mvC m vr vw)) (h1 : RowX lo wa vr m.reads) (h2 : RowX lo wa vw m.writes) : RowX lo w2 vr m.reads ∧ RowX lo w2 vw m.writes := ⟨h1.store hx h.fr, h2.store hx h.fr⟩
end
end Go.Proofs.Ytokkjifmgmngjaa.G
