/- Rms, Rlk, Rnx, joined. -/
import Derived.Test.YtokkjifmgmngjaaMg6
section
/- The walks of the reference's Moves and Look (printed by mkrms.py). -/
namespace Go.Proofs.Ytokkjifmgmngjaa
open Go.RowKit
set_option linter.unusedVariables false
set_option linter.unusedSimpArgs false

def MovF (P : Nat → Prop) (w : World) (a : PArc × Nat) (c : List Value) : Prop := ∃ vr vw, c = mvC a.2 a.1 (toS a.1) vr vw ∧ RowL P w 1 vr a.1.reads.length (a.1.reads.map intV) ∧ RowL P w 1 vw a.1.writes.length (a.1.writes.map intV)
theorem MovF.mono {P Q : Nat → Prop} {w : World} (hl : Wide P Q w) {a : PArc × Nat} {c : List Value} (h : MovF P w a c) : MovF Q w a c := by
  obtain ⟨vr, vw, h1, h2, h3⟩ := h
  exact ⟨vr, vw, h1, h2.mono hl, h3.mono hl⟩
theorem oneMov : One MovF 9 := ⟨fun ⟨vr, vw, h, _⟩ => by rw [h]; rfl, fun ⟨vr, vw, h, h2, h3⟩ => by
  rw [h]; simp [mvC, h2.cell1, h3.cell1]; simp [Value.oneCell'], fun hu ⟨vr, vw, h1, h2, h3⟩ => ⟨vr, vw, h1, h2.up hu, h3.up hu⟩⟩
/-- The moves of a row of arcs, as a list in memory. -/
def MovesV (P : Nat → Prop) (w : World) (v : Value) (l : List PArc) : Prop := ∃ f, RowL P w 9 v l.length f ∧ LsF MovF P w l.zipIdx f
theorem zip_at {l : List PArc} {i : Nat} (h : i < l.length) : l.zipIdx[i]'(by simpa using h) = (l[i], i) := by simp
end Go.Proofs.Ytokkjifmgmngjaa
end
section
/- The walk of the reference's Look (printed by mkrlk.py). -/
namespace Go.Proofs.Ytokkjifmgmngjaa
open Go.RowKit
set_option linter.unusedVariables false
set_option linter.unusedSimpArgs false

/-- The reference reads a state's number as the program does. -/
theorem ref_none {N : PNet} {s : Bs} (h : nums 1099511627776 1 s = none) : nodeOf N s = none := by
  unfold nodeOf
  have : nums 20000 1 s = none := by
    rw [nums] at h ⊢
    cases hd : dec s with
    | ok n k =>
      rw [hd] at h
      simp only at h ⊢
      split at h
      · rw [if_pos (by omega)]
      · rw [nums] at h; cases h
    | _ => rfl
  rw [this]
theorem ref_some {N : PNet} {s : Bs} {ns : List Nat} {l : Bs} (hN : N.length ≤ 20000) (h : nums 1099511627776 1 s = some (ns, l)) : ∃ k, ns = [k] ∧ k ≤ 1099511627776 ∧ nodeOf N s = if l = [] then N[k]? else none := by
  rw [nums] at h
  cases hd : dec s with
  | ok n k =>
    rw [hd] at h
    simp only at h
    split at h
    · cases h
    · rename_i hn
      rw [nums] at h
      simp only [Option.some.injEq, Prod.mk.injEq] at h
      obtain ⟨rfl, rfl⟩ := h
      refine ⟨n, rfl, by omega, ?_⟩
      unfold nodeOf
      rw [nums, hd]
      simp only
      by_cases hl : s.drop k = []
      · rw [if_pos hl, hl]
        by_cases h2 : 20000 < n
        · rw [if_pos h2, List.getElem?_eq_none (by omega)]
        · rw [if_neg h2, nums]
      · rw [if_neg hl]
        obtain ⟨a, r, hr⟩ := List.exists_cons_of_ne_nil hl
        rw [hr]
        by_cases h2 : 20000 < n
        · rw [if_pos h2]
        · rw [if_neg h2, nums]
  | _ => rw [hd] at h; cases h
end Go.Proofs.Ytokkjifmgmngjaa
end
section
/- The walk of the reference's Next (printed by mkrnx.py). -/
namespace Go.Proofs.Ytokkjifmgmngjaa
open Go.RowKit
set_option linter.unusedVariables false
set_option linter.unusedSimpArgs false

structure NxO (S : Nat) (w3 : World) (l : List (PArc × Nat)) (vo : Value) (wr : World) : Prop where
  below : Below S w3 wr
  ge : S ≤ w3.heap.size
  row : ∃ fo, wr.ownsRow S 44 9 vo l.length fo ∧ LsF MovF (fun q => S ≤ q ∧ vo.ownBlock ≠ some q) wr l fo
theorem NxO.app {S : Nat} {w3 wr W8 W9 : World} {l : List (PArc × Nat)} {y : PArc × Nat} {vo vo' : Value} {fo c : List Value} {o : Obj} (h : NxO S w3 l vo wr) (hr : wr.ownsRow S 44 9 vo l.length fo) (hfo : LsF MovF (fun q => S ≤ q ∧ vo.ownBlock ≠ some q) wr l fo) (h8 : Below wr.heap.size wr W8) (hy : MovF (fun q => wr.heap.size ≤ q) W8 y c)
    (hown : W9.ownsRow S 44 9 vo' (l.length + 1) (fo ++ c)) (hgr : (W8.alloc o).grownBy W9 vo.ownBlock) (hblk : vo'.ownBlock = vo.ownBlock ∨ vo'.ownBlock = some (W8.alloc o).heap.size) : NxO S w3 (l ++ [y]) vo' W9 := by
  have hg := h.ge
  have hbs := h.below.size
  have hvl := owns_lt hr
  have hvg := owns_ge hr
  have hs8 := h8.size
  have hs9 : W8.heap.size ≤ (W8.alloc o).heap.size := by simp
  have hf9 : Fr (fun q => vo.ownBlock = some q) W8 W9 := ((Fr.refl _ W8).alloc o).grown hgr fun q hq _ => hq
  have hv : ∀ k, k < W8.heap.size → vo.ownBlock ≠ some k → vo'.ownBlock ≠ some k := fun k hk hn he => by
    rcases hblk with hb | hb
    · rw [hb] at he; exact hn he
    · rw [hb] at he; injection he with he; omega
  refine ⟨(h.below.trans (h8.mono (by omega))).trans (hf9.to_below (by omega) fun k hk hor => by have := hvg k hor; omega), h.ge, fo ++ c, by rw [List.length_append]; exact hown, LsF.append ?_ (LsF.sing ?_)⟩
  · have a0 := LsF.mono (fun _ _ => MovF.mono (Wide.in_ (w := wr))) _ hfo
    have a1 := LsF.up (w' := W8) (fun _ _ => oneMov.up fun k hk hs => h8.block k hs) _ a0
    have a2 := LsF.up (w' := W9) (fun _ _ => oneMov.up fun k hk hs => hf9.block k hs hk.1.2) _ a1
    exact LsF.mono (fun _ _ => MovF.mono fun k hk _ => ⟨hk.1.1, hv k (by omega) hk.1.2⟩) _ a2
  · have hne : ∀ k, wr.heap.size ≤ k → vo.ownBlock ≠ some k := fun k hk he => by have := hvl k he; omega
    have a0 := MovF.mono (Wide.in_ (w := W8)) hy
    have a2 := oneMov.up (w' := W9) (fun k hk hs => hf9.block k hs (hne k hk.1)) a0
    exact MovF.mono (fun k hk _ => ⟨by omega, hv k hk.2 (hne k hk.1)⟩) a2
theorem NxO.moves {S base : Nat} {w3 wr : World} {l : List PArc} {vo : Value} (h : NxO S w3 l.zipIdx vo wr) (hb : base ≤ S) : MovesV (From base) wr vo l := by
  obtain ⟨fo, h1, h2⟩ := h.row
  rw [List.length_zipIdx] at h1
  exact ⟨fo, RowL.of_owns h1 fun k hk => Nat.le_trans hb hk, LsF.mono (fun _ _ => MovF.mono fun k hk _ => Nat.le_trans hb hk.1) _ h2⟩
def NextPost (N : PNet) (s : Bs) (w : World) (e : Ending) (w' : World) : Prop := Below w.heap.size w w' ∧ ∃ v, e = .returned v ∧ MovesV (From w.heap.size) w' v ((nodeOf N s).getD zeroN).arcs
theorem info_move : (Try.prog.info? 44).map (fun i => (i.zero.map fun z => z.cells.size, i.size, i.bytes)) = some (some 9, 9, 112) := by kernel_rfl
end Go.Proofs.Ytokkjifmgmngjaa
end
