/- Rows of moves in memory; a few small laws. -/
import Derived.Test.YtokkjifmgmngjaaGal
namespace Go.Proofs.Ytokkjifmgmngjaa.G
open Go.RowKit Go.Maps
set_option linter.unusedVariables false
set_option linter.unusedSimpArgs false

theorem at_int {P : Nat → Prop} {w : World} {a : Option Addr} {n c : Nat} {l : List Int} (h : RowL P w 1 (.slice a n c) l.length (l.map intV)) {i : Nat} (hi : i < l.length) : ∃ g o, a = some ⟨g, o, none⟩ ∧ w.cell? ⟨g, o + i, none⟩ = some (.int .i64 l[i]) := by
  obtain ⟨g, o, c', x, he, hx, hc⟩ := h.at1 hi
  injection he with he _ _
  rw [List.getElem?_map, List.getElem?_eq_getElem hi] at hx
  injection hx with hx
  exact ⟨g, o, he, by rw [hc, ← hx]; rfl⟩
def BoolB (b : Bool) (w : World) (e : Ending) (w' : World) : Prop := e = .returned (.bool b) ∧ Below w.heap.size w w'
def MvF (P : Nat → Prop) (w : World) (a : PMove) (c : List Value) : Prop := ∃ vr vw, c = mvC a vr vw ∧ RowL P w 1 vr a.reads.length (a.reads.map intV) ∧ RowL P w 1 vw a.writes.length (a.writes.map intV)
theorem MvF.mono {P Q : Nat → Prop} {w : World} (hl : Wide P Q w) {a : PMove} {c : List Value} (h : MvF P w a c) : MvF Q w a c := by
  obtain ⟨vr, vw, h1, h2, h3⟩ := h
  exact ⟨vr, vw, h1, h2.mono hl, h3.mono hl⟩
theorem oneMv : One MvF 9 := ⟨fun ⟨vr, vw, h, _⟩ => by rw [h]; rfl, fun ⟨vr, vw, h, h2, h3⟩ => by
  have q1 := h2.cell1
  have q2 := h3.cell1
  rw [h]
  simp [mvC, q1, q2]
  simp [Value.oneCell'], fun hu ⟨vr, vw, h1, h2, h3⟩ => ⟨vr, vw, h1, h2.up hu, h3.up hu⟩⟩
theorem MvF.of {P : Nat → Prop} {w : World} {a : PMove} {c : List Value} (h : MovG P w a c) : MvF P w a c := by
  obtain ⟨vr, vw, h1, h2, h3⟩ := h
  exact ⟨vr, vw, h1, h2.1, h3.1⟩
/-- Moves, as a list in memory. -/
def MvsV (P : Nat → Prop) (w : World) (v : Value) (l : List PMove) : Prop := ∃ f, RowL P w 9 v l.length f ∧ LsF MvF P w l f
theorem MvsV.up {P : Nat → Prop} {w w' : World} {v : Value} {l : List PMove} (h : MvsV P w v l) (hu : Keep P w w') : MvsV P w' v l := by
  obtain ⟨f, h1, h2⟩ := h
  exact ⟨f, h1.up hu, LsF.up (fun _ _ => oneMv.up hu) _ h2⟩
theorem MvsV.mono {P Q : Nat → Prop} {w : World} {v : Value} {l : List PMove} (h : MvsV P w v l) (hl : Wide P Q w) : MvsV Q w v l := by
  obtain ⟨f, h1, h2⟩ := h
  exact ⟨f, h1.mono hl, LsF.mono (fun _ _ => MvF.mono hl) _ h2⟩
theorem MvsV.nil (P : Nat → Prop) (w : World) : MvsV P w (.slice none 0 0) [] := ⟨[], RowL.nil _ _ _, rfl⟩
theorem MvsV.ptr {P : Nat → Prop} {w : World} {v : Value} {l : List PMove} {n : Nat} (h : MvsV P w v l) (hn : l.length = n) (h0 : 0 < n) : ∃ g o c, v = .slice (some ⟨g, o, none⟩) n c := by
  obtain ⟨f, hr, hg⟩ := h
  subst hn
  obtain ⟨g, o, c, cs, he, _⟩ := hr.atN oneMv hg h0
  exact ⟨g, o, c, he⟩
theorem MvsV.elem {P : Nat → Prop} {w : World} {g o n c : Nat} {l : List PMove} (h : MvsV P w (.slice (some ⟨g, o, none⟩) n c) l) (k : Nat) (hk : k < l.length) : ∃ cs, MvF P w l[k] cs ∧ w.rangeAt g (o + k * 9) cs := by
  obtain ⟨f, hr, hg⟩ := h
  have hn : n = l.length := by obtain ⟨_, _, he, _⟩ := hr; injection he
  subst hn
  obtain ⟨g', o', c', cs, he, hG, hrr⟩ := hr.atN oneMv hg hk
  injection he with he _ _
  injection he with he
  injection he with he1 he2
  subst he1 he2
  exact ⟨cs, hG, hrr⟩
theorem cell_up {w w' : World} {g o : Nat} {v : Value} (h : w.cell? ⟨g, o, none⟩ = some v) (hb : Below w.heap.size w w') : w'.cell? ⟨g, o, none⟩ = some v := by
  rw [hb.cell (World.block_lt_of_cell? w _ h)]; exact h
theorem below_drewN {base : Nat} {w w' : World} (h : Below base w w') (hb : base ≤ w.heap.size) (n : Nat) : Below base w (w'.drewN n) := h.trans (⟨rfl, rfl, rfl, Nat.le_refl _, fun _ _ => rfl⟩ : Below base w' (w'.drewN n))
/-- What lies in a row of moves, at a place. -/
theorem MvsV.cells {P : Nat → Prop} {w : World} {g o n c : Nat} {l : List PMove} (h : MvsV P w (.slice (some ⟨g, o, none⟩) n c) l) (k : Nat) {m : PMove} (hk : l[k]? = some m) : w.cell? ⟨g, o + k * 9, none⟩ = some (.int .i64 m.proc) ∧ w.cell? ⟨g, o + k * 9 + 4, none⟩ = some (.string m.dst) ∧ w.cell? ⟨g, o + k * 9 + 5, none⟩ = some (.int .i64 m.bad) ∧ w.cell? ⟨g, o + k * 9 + 8, none⟩ = some (.int .u64 (m.turns : Int)) := by
  obtain ⟨hkl, rfl⟩ := List.getElem?_eq_some_iff.1 hk
  obtain ⟨cs, ⟨vr, vw, rfl, _⟩, hrr⟩ := h.elem k hkl
  exact ⟨hrr 0 _ rfl, hrr 4 _ rfl, hrr 5 _ rfl, hrr 8 _ rfl⟩
end Go.Proofs.Ytokkjifmgmngjaa.G
