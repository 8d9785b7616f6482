/- Mark, Exv, joined. -/
import Derived.Test.YtpednhcfkjjcpaaMg3
section
/- A function that is left with many marks of range-over-func loops among its deferred calls. -/
namespace Go.Proofs.Ytpednhcfkjjcpaa
open Go.RowKit
set_option linter.unusedVariables false
set_option linter.unusedSimpArgs false

def mark (D : Nat) : Deferred := { target := .collected D, args := #[] }
theorem leaves_marks {F : Fence} {n : Nat} {P : Program} {fn : Func} {tmps : Array Value} {R : Ending → World → Prop} {u : FrameMode} (hu : u ≠ .run) : ∀ (ds : List Nat) (w : World), ds.Nodup → (∀ D ∈ ds, w.heap[D]? = some (.deferred (some []))) →
    (∀ w', Fr (fun k => k ∈ ds) w w' → LeavesInM F n P fn tmps R [] u w') → LeavesInM F n P fn tmps R (ds.map mark) u w
  | [], w, _, _, h => h w (Fr.refl _ _)
  | D :: ds, w, hd, hm, h => by
    have hD := hm D (by simp)
    have hd2 := List.nodup_cons.1 hd
    refine ⟨hu, .inl ⟨D, _, rfl, run_takeDeferred hD, leaves_marks hu ds _ hd2.2 (fun E hE => ?_) fun w' hf => ?_⟩⟩
    · exact (World.putObj_heap_other (by rintro rfl; exact hd2.1 hE)).trans (hm E (by simp [hE]))
    · refine h w' (Fr.trans (F := fun k => k ∈ D :: ds) ((Fr.refl _ w).grown (grownBy_putObj' w D _) fun k hk _ => ?_) hf fun k _ hk => by simp [hk])
      injection hk with hk
      simp [hk]
end Go.Proofs.Ytpednhcfkjjcpaa
end
section
/- What lies in memory while a graph is explored. -/
namespace Go.Proofs.Ytpednhcfkjjcpaa
open Go.RowKit Go.Maps
set_option linter.unusedVariables false
set_option linter.unusedSimpArgs false

/-- The blocks of Explore's variables. -/
structure ExB where
  b3 : Nat
  b4 : Nat
  b5 : Nat
  b6 : Nat
  b7 : Nat
  b8 : Nat
  b9 : Nat
  b10 : Nat
  m : Nat
/-- Where what has been found lies: in none of the blocks that are written into. -/
def ExP (base : Nat) (B : ExB) (vs vo : Value) (k : Nat) : Prop := (base ≤ k ∧ k ≠ B.b4 ∧ k ≠ B.b5 ∧ k ≠ B.b6) ∧ k ≠ B.b7 ∧ k ≠ B.b9 ∧ k ≠ B.b10 ∧ k ≠ B.m ∧ vs.ownBlock ≠ some k ∧ vo.ownBlock ≠ some k
structure ExV (base : Nat) (P : Nat → Prop) (B : ExB) (w0 W : World) (most : Nat) (st : List Nat) (out : PNet) (cnt : Nat) (vs vo : Value) : Prop where
  ne : B.b4 < B.b9 ∧ B.b5 < B.b7 ∧ B.b3 < B.b10
  ge : base ≤ B.b3 ∧ base ≤ B.b4 ∧ base ≤ B.b5 ∧ base ≤ B.b6 ∧ base ≤ B.b7 ∧ base ≤ B.b8 ∧ base ≤ B.b9 ∧ base ≤ B.b10 ∧ base ≤ B.m
  below : Below base w0 W
  most_ : Holds W B.b3 3 [.int .i64 (most : Int)]
  r4 : Holds W B.b4 24 [.slice none 0 0]
  r5 : Holds W B.b5 41 [.slice none 0 0]
  r6 : Holds W B.b6 31 [.int .i64 0]
  states : Holds W B.b7 41 [vs]
  row : W.ownsRow base 9 1 vs st.length (st.map fun m => .string (keyS m))
  maps : Holds W B.b8 90 [.map (some B.m)]
  num : NumV W B.m st.length st
  outs : Holds W B.b9 24 [vo]
  nodes : ∃ fo, W.ownsRow base 81 5 vo out.length fo ∧ LsF NodeF P W out fo
  far : ∀ k, P k → ExP base B vs vo k
  cnt_ : Holds W B.b10 3 [.int .i64 (cnt : Int)]
theorem Holds.kept_row {w w' : World} {g : Nat} {t : TypeId} {cs : List Value} {row : Option Nat} (h : Holds w g t cs) (hg : w.grownBy w' row) (hr : ∀ r, row = some r → ∃ o : Obj, w.heap[r]? = some o ∧ o.isCells = false) : Holds w' g t cs :=
  h.of_eq (hg.block g h.lt fun e => by
    obtain ⟨o, ho, hc⟩ := hr g e.symm
    unfold Holds at h
    rw [h] at ho
    cases ho
    cases hc)
theorem owns_kept {w w' : World} {base sz n : Nat} {e : TypeId} {v : Value} {xs : List Value} {row : Option Nat} (h : w.ownsRow base e sz v n xs) (hg : w.grownBy w' row) (hr : ∀ r, row = some r → ∃ o : Obj, w.heap[r]? = some o ∧ o.isCells = false) : w'.ownsRow base e sz v n xs := by
  refine ((Fr.refl (fun k => row = some k) w).grown hg fun k hk _ => hk).owns h fun g hgo hrow => ?_
  obtain ⟨o, ho, hc⟩ := hr g hrow
  rcases h.2 with ⟨h0, _⟩ | ⟨g', cap, cur, hv, _, hh, _⟩
  · rw [h0] at hgo; simp [Value.ownBlock] at hgo
  · rw [hv] at hgo
    simp only [Value.ownBlock, Option.some.injEq] at hgo
    subst hgo
    rw [hh] at ho
    cases ho
    cases hc
theorem ExV.kept {base hi : Nat} {P : Nat → Prop} {B : ExB} {w0 W W' : World} {most : Nat} {st : List Nat} {out : PNet} {cnt : Nat} {vs vo : Value} {row : Option Nat} (h : ExV base P B w0 W most st out cnt vs vo) (hg : W.grownBy W' row)
    (hr : ∀ r, row = some r → hi ≤ r ∧ ∃ o : Obj, W.heap[r]? = some o ∧ o.isCells = false) (hm : B.m < hi) (hb : base ≤ hi) (hP : ∀ k, P k → k < hi) : ExV base P B w0 W' most st out cnt vs vo := by
  have hr2 : ∀ r, row = some r → ∃ o : Obj, W.heap[r]? = some o ∧ o.isCells = false := fun r e => (hr r e).2
  obtain ⟨fo, h1, h2⟩ := h.nodes
  refine ⟨h.ne, h.ge, ?_, h.most_.kept_row hg hr2, h.r4.kept_row hg hr2, h.r5.kept_row hg hr2, h.r6.kept_row hg hr2, h.states.kept_row hg hr2, owns_kept h.row hg hr2, h.maps.kept_row hg hr2, h.num.of_eq (hg.block _ h.num.lt fun e => by have := (hr _ e.symm).1; omega), h.outs.kept_row hg hr2, ⟨fo, owns_kept h1 hg hr2, ?_⟩, h.far, h.cnt_.kept_row hg hr2⟩
  · have hl := h.below.size
    have hge : base ≤ W.heap.size := by have := h.states.lt; have := h.ge; omega
    exact h.below.grown hg hge fun k hk => by have := (hr k hk).1; omega
  · exact LsF.up (fun _ _ => oneNode.up fun k hk hs => hg.block k hs fun e => by have := (hr k e.symm).1; have := hP k hk; omega) _ h2
theorem HoldsR.kept_row {w w' : World} {g : Nat} {t : TypeId} {cs : List Value} {row : Option Nat} (h : HoldsR w g t cs) (hg : w.grownBy w' row) (hr : ∀ r, row = some r → ∃ o : Obj, w.heap[r]? = some o ∧ o.isCells = false) : HoldsR w' g t cs :=
  h.of_eq (hg.block g h.lt fun e => by
    obtain ⟨o, ho, hc⟩ := hr g e.symm
    obtain ⟨fr, h⟩ := h
    rw [h] at ho
    cases ho
    cases hc)
theorem RowL.kept {P : Nat → Prop} {w w' : World} {size n : Nat} {v : Value} {f : List Value} {row : Option Nat} (h : RowL P w size v n f) (hg : w.grownBy w' row) (hr : ∀ r, row = some r → ∃ o : Obj, w.heap[r]? = some o ∧ o.isCells = false) : RowL P w' size v n f := by
  obtain ⟨a, cap, h1, h2, h3, h4, h5, h6⟩ := h
  refine ⟨a, cap, h1, h2, h3, h4, h5, fun hn => ?_⟩
  obtain ⟨g, o, cs, t, k1, k2, k3, k4⟩ := h6 hn
  exact ⟨g, o, cs, t, k1, k2, k3.kept_row hg hr, k4⟩
theorem ArcF.kept {P : Nat → Prop} {w w' : World} {a : PArc} {c : List Value} {row : Option Nat} (hg : w.grownBy w' row) (hr : ∀ r, row = some r → ∃ o : Obj, w.heap[r]? = some o ∧ o.isCells = false) (h : ArcF P w a c) : ArcF P w' a c := by
  obtain ⟨vr, vw, h1, h2, h3⟩ := h
  exact ⟨vr, vw, h1, h2.kept hg hr, h3.kept hg hr⟩
/-- What lies before the loop. -/
theorem ExV.start {w w1 w2 w3 W : World} {most : Nat} (hw1 : w1 = ((((w.alloc (.cells #[.int .i64 (most : Int)] 3)).alloc (.cells #[.slice none 0 0] 24)).alloc (.cells #[.slice none 0 0] 41)).alloc (.cells #[.int .i64 0] 31)))
    (hb2 : Below w1.heap.size w1 w2) (hnum : NumV w3 (w2.heap.size + 1 + 1) 1 [0])
    (hgr : (((w2.alloc (.cells #[.string (keyS 0)] 9)).alloc (.cells #[.slice (some ⟨w2.heap.size, 0, none⟩) 1 1] 41)).alloc (.map #[] 0)).grownBy w3 (some (w2.heap.size + 1 + 1)))
    (hW : W = ((w3.alloc (.cells #[.map (some (w2.heap.size + 1 + 1))] 90)).alloc (.cells #[.slice none 0 0] 24)).alloc (.cells #[.int .i64 0] 3)) :
    ExV w.heap.size (fun _ => False) ⟨w.heap.size, w.heap.size + 1, w.heap.size + 1 + 1, w.heap.size + 1 + 1 + 1, w2.heap.size + 1, w3.heap.size, w3.heap.size + 1, w3.heap.size + 1 + 1, w2.heap.size + 1 + 1⟩ w W most [0] [] 0 (.slice (some ⟨w2.heap.size, 0, none⟩) 1 1) (.slice none 0 0) := by
  have s1 : w1.heap.size = w.heap.size + 1 + 1 + 1 + 1 := by rw [hw1]; simp
  have s2 := hb2.size
  have s3 := hgr.size
  simp only [World.size_alloc] at s3
  have q3 : Holds w1 w.heap.size 3 [.int .i64 (most : Int)] := by rw [hw1]; exact (((Holds.new w 3 #[_]).alloc _).alloc _).alloc _
  have q4 : Holds w1 (w.heap.size + 1) 24 [.slice none 0 0] := by
    have h := Holds.new (w.alloc (.cells #[.int .i64 (most : Int)] 3)) 24 #[.slice none 0 0]
    simp only [World.size_alloc] at h
    rw [hw1]; exact (h.alloc _).alloc _
  have q5 : Holds w1 (w.heap.size + 1 + 1) 41 [.slice none 0 0] := by
    have h := Holds.new ((w.alloc (.cells #[.int .i64 (most : Int)] 3)).alloc (.cells #[.slice none 0 0] 24)) 41 #[.slice none 0 0]
    simp only [World.size_alloc] at h
    rw [hw1]; exact h.alloc _
  have q6 : Holds w1 (w.heap.size + 1 + 1 + 1) 31 [.int .i64 0] := by
    have h := Holds.new (((w.alloc (.cells #[.int .i64 (most : Int)] 3)).alloc (.cells #[.slice none 0 0] 24)).alloc (.cells #[.slice none 0 0] 41)) 31 #[.int .i64 0]
    simp only [World.size_alloc] at h
    rw [hw1]; exact h
  have q7 : Holds (((w2.alloc (.cells #[.string (keyS 0)] 9)).alloc (.cells #[.slice (some ⟨w2.heap.size, 0, none⟩) 1 1] 41)).alloc (.map #[] 0)) (w2.heap.size + 1) 41 [.slice (some ⟨w2.heap.size, 0, none⟩) 1 1] := by
    have h := Holds.new (w2.alloc (.cells #[.string (keyS 0)] 9)) 41 #[.slice (some ⟨w2.heap.size, 0, none⟩) 1 1]
    simp only [World.size_alloc] at h
    exact h.alloc _
  have qs : Holds (((w2.alloc (.cells #[.string (keyS 0)] 9)).alloc (.cells #[.slice (some ⟨w2.heap.size, 0, none⟩) 1 1] 41)).alloc (.map #[] 0)) w2.heap.size 9 [.string (keyS 0)] := ((Holds.new w2 9 #[.string (keyS 0)]).alloc _).alloc _
  have up : ∀ {g : Nat} {t : TypeId} {cs : List Value}, Holds (((w2.alloc (.cells #[.string (keyS 0)] 9)).alloc (.cells #[.slice (some ⟨w2.heap.size, 0, none⟩) 1 1] 41)).alloc (.map #[] 0)) g t cs → g ≠ w2.heap.size + 1 + 1 → Holds W g t cs := fun {g t cs} h hne => by
    rw [hW]
    exact (((h.of_eq (hgr.block g h.lt fun e => hne (by injection e))).alloc _).alloc _).alloc _
  have up1 : ∀ {g : Nat} {t : TypeId} {cs : List Value}, Holds w1 g t cs → Holds W g t cs := fun {g t cs} h => by
    have hl := (h.belowAll hb2).lt
    exact up ((((h.belowAll hb2).alloc _).alloc _).alloc _) (by omega)
  have hbel : Below w.heap.size w W := by
    have h1 : Below w.heap.size w w1 := by rw [hw1]; exact ((((Below.refl _ w).alloc (Nat.le_refl _) _).alloc (by simp) _).alloc (by simp; omega) _).alloc (by simp; omega) _
    have h2 : Below w.heap.size w w2 := h1.trans (hb2.mono h1.size)
    have h3 : Below w.heap.size w w3 := ((((h2.alloc h2.size _).alloc (by simp; omega) _).alloc (by simp; omega) _)).grown hgr (by simp; omega) fun k hk => by injection hk with hk; omega
    rw [hW]
    exact ((h3.alloc h3.size _).alloc (by simp; omega) _).alloc (by simp; omega) _
  refine ⟨⟨by dsimp only; omega, by dsimp only; omega, by dsimp only; omega⟩, ⟨by dsimp only; omega, by dsimp only; omega, by dsimp only; omega, by dsimp only; omega, by dsimp only; omega, by dsimp only; omega, by dsimp only; omega, by dsimp only; omega, by dsimp only; omega⟩, hbel, up1 q3, up1 q4, up1 q5, up1 q6, up q7 (by dsimp only; omega), owns_lit (up qs (by omega)) (by omega) rfl (by omega), ?_, ?_, ?_, ⟨[], ⟨rfl, .inl ⟨rfl, rfl⟩⟩, rfl⟩, (fun _ h => h.elim), ?_⟩
  · rw [hW]; exact ((Holds.new w3 90 #[_]).alloc _).alloc _
  · rw [hW]; exact ((hnum.alloc _).alloc _).alloc _
  · have h := Holds.new (w3.alloc (.cells #[.map (some (w2.heap.size + 1 + 1))] 90)) 24 #[.slice none 0 0]
    simp only [World.size_alloc] at h
    rw [hW]; exact h.alloc _
  · have h := Holds.new ((w3.alloc (.cells #[.map (some (w2.heap.size + 1 + 1))] 90)).alloc (.cells #[.slice none 0 0] 24)) 3 #[.int .i64 0]
    simp only [World.size_alloc] at h
    rw [hW]; exact h
end Go.Proofs.Ytpednhcfkjjcpaa
end
