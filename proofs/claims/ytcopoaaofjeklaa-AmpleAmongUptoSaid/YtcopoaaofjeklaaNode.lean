/- The walks of a graph's methods (printed by mknode.py). -/
import Derived.Test.YtcopoaaofjeklaaOf
import Derived.Test.YtcopoaaofjeklaaNums
namespace Go.Proofs.Ytcopoaaofjeklaa
open Go.RowKit
set_option linter.unusedVariables false
set_option linter.unusedSimpArgs false

theorem sz_Sight : (Try.prog.info? 46).map (·.size) = some 4 := by kernel_rfl
theorem outBox2 {P : Program} {fn : Func} {s u : Nat} {tmps : Array Value} {W : World} {b : Nat} {t ty : TypeId} {cs : List Value} (hf : fn.results = #[.cell s ty, .tmp u]) (h : Holds W b t cs) (hs : tmps[s]?.getD undef = .pointer (some ⟨b, 0, none⟩))
    (d : TypeDesc) (hu : P.underlying ty = some d) (hd : d.isRow = true) (hi : (P.info? ty).map (·.size) = some cs.length) : (results fn tmps).run P W = .ok (.tuple #[.agg cs.toArray, tmps.getD u undef]) W := by
  have hl := run_loadVar_mid (P := P) W b 0 ty cs d (fun j v hj => by rw [Nat.zero_add, h.cell]; exact hj) hu hd hi
  simp [results, hf, hs, asAddr, hl]
def nodeOf (n : PNet) (s : Bs) : Option PNode := match nums 20000 1 s with
  | some ([k], []) => n[k]?
  | _ => none
def zeroN : PNode := ⟨[], 0, false, false, false⟩
theorem zeroF (P : Nat → Prop) (w : World) : NodeF P w zeroN [.slice none 0 0, .int .u64 0, .bool false, .bool false, .bool false] := ⟨_, rfl, [], RowL.nil _ _ _, rfl⟩
def NodePost (P : Nat → Prop) (n : PNet) (s : Bs) (w : World) (e : Ending) (w' : World) : Prop := Below w.heap.size w w' ∧ ∃ c, e = .returned (.tuple #[.agg c.toArray, .bool (nodeOf n s).isSome]) ∧ NodeF P w' ((nodeOf n s).getD zeroN) c
theorem NodePost.no {P : Nat → Prop} {n : PNet} {s : Bs} {w w' : World} (h : nodeOf n s = none) (hb : Below w.heap.size w w') : NodePost P n s w (.returned (.tuple #[.agg #[.slice none 0 0, .int .u64 0, .bool false, .bool false, .bool false], .bool false])) w' := by
  refine ⟨hb, [.slice none 0 0, .int .u64 0, .bool false, .bool false, .bool false], by rw [h]; rfl, ?_⟩
  rw [h]
  exact zeroF P w'
theorem Fr.setR0 {w w2 : World} {X q : Nat} {xs : List Value} {i : Nat} (h : Below w.heap.size w w2) (hX : w.heap.size ≤ X) : Below w.heap.size w (setR (w2.drewN q) X i xs) := by
  have h1 : Fr (fun _ => False) w (w2.drewN q) := (Fr.of_below h _).drewN q
  have : ∀ (xs : List Value) (i : Nat) (W : World), Fr (fun _ => False) w W → Fr (fun _ => False) w (setR W X i xs) := fun xs => by
    induction xs with
    | nil => intro i W hW; exact hW
    | cons x r ih => intro i W hW; exact ih (i + 1) _ (hW.setCell (fun hk => absurd hk (by show ¬ X < _; omega)) x)
  exact (this xs i _ h1).to_below (Nat.le_refl _) fun _ _ h => h
theorem Fr.setRX (X : Nat) : ∀ (xs : List Value) (i : Nat) (W : World), Fr (fun q => q = X) W (setR W X i xs) := fun xs => by
  have : ∀ (xs : List Value) (i : Nat) (W0 W : World), Fr (fun q => q = X) W0 W → Fr (fun q => q = X) W0 (setR W X i xs) := fun xs => by
    induction xs with
    | nil => intro i W0 W hW; exact hW
    | cons x r ih => intro i W0 W hW; exact ih (i + 1) W0 _ (hW.setCell (fun _ => rfl) x)
  exact fun i W => this xs i W W (Fr.refl _ _)
def sight (x : PNode) : Value := .agg #[.int .u64 (x.props : Int), .bool x.fin, .bool x.prog, .bool x.acc]
def LookPost (n : PNet) (s : Bs) (w : World) (e : Ending) (w' : World) : Prop := Below w.heap.size w w' ∧ e = .returned (sight ((nodeOf n s).getD zeroN))
end Go.Proofs.Ytcopoaaofjeklaa
