/- The deferred closure of Of: it recovers from many. -/
import Derived.Test.YtelanndleinabaaDoorState
import Derived.Defers
import Derived.Recover
namespace Go.Proofs.YtelanndleinabaaDoor
open Go.RowKit
set_option linter.unusedVariables false

set_option maxRecDepth 100000 in
theorem of1_panicking (bg be : Nat) (cg ce : List Value) (w : World) (hg : Holds w bg 25 [cg.getD 0 (.bool false), cg.getD 1 (.bool false), cg.getD 2 (.bool false)]) (he : Holds w be 29 [ce.getD 0 (.bool false)]) :
    CallsD Tryd.prog 30 #[.pointer (some ⟨bg, 0, none⟩), .pointer (some ⟨be, 0, none⟩)] (.panicking manyChain) w fun e u' w' =>
      e = .returned (.tuple #[]) ∧ u' = .panicking [{ v := .iface 79 (.agg #[]), recovered := true }] ∧ Holds w' bg 25 [.int .i64 0, .slice none 0 0, .slice none 0 0] ∧ Holds w' be 29 [.int .i64 131] ∧ ∀ B, B ≤ bg → B ≤ be → Below B w w' := by
  have hta : ∀ w, Sem.run Tryd.prog (Instr.typeAssert (.iface 79 (.agg #[])) 20 79 true) w = .ok (.tuple #[.agg #[], .bool true]) w := by
    intro w; kernel_rfl
  have hne : bg ≠ be := hg.ne_of_type he (by decide)
  have hg1 := hg.alloc (.cells #[] 79)
  have he1 := he.alloc (.cells #[] 79)
  generalize hw1 : w.alloc (.cells #[] 79) = w1 at hg1 he1
  have hf : Holds (((w1.setCell ⟨bg, 0, none⟩ (.int .i64 0)).setCell ⟨bg, 1, none⟩ (.slice none 0 0)).setCell ⟨bg, 2, none⟩ (.slice none 0 0)) bg 25 [.int .i64 0, .slice none 0 0, .slice none 0 0] := ((hg1.put 0 (.int .i64 0)).put 1 (.slice none 0 0)).put 2 (.slice none 0 0)
  have hfe : Holds (((w1.setCell ⟨bg, 0, none⟩ (.int .i64 0)).setCell ⟨bg, 1, none⟩ (.slice none 0 0)).setCell ⟨bg, 2, none⟩ (.slice none 0 0)) be 29 [ce.getD 0 (.bool false)] := ((he1.far hne.symm _).far hne.symm _).far hne.symm _
  have HF := Lib.hid (hf.far (p := ⟨be, 0, none⟩) hne (.int .i64 131))
  have HE := Lib.hid (hfe.put 0 (.int .i64 131))
  have HB : Hid (∀ B, B ≤ bg → B ≤ be → Below B w ((((w1.setCell ⟨bg, 0, none⟩ (.int .i64 0)).setCell ⟨bg, 1, none⟩ (.slice none 0 0)).setCell ⟨bg, 2, none⟩ (.slice none 0 0)).setCell ⟨be, 0, none⟩ (.int .i64 131))) := fun B h1 h2 => by
    rw [← hw1]
    have : B ≤ w.heap.size := Nat.le_trans h1 (Nat.le_of_lt hg.lt)
    exact (((((Below.refl B w).alloc this _).setCell h1 _).setCell h1 _).setCell h1 _).setCell h2 _
  have g0 := hg1.cell 0
  have g1 := hg1.cell 1
  have g2 := hg1.cell 2
  have e0 := he1.cell 0
  have gf0 := hg1.free 0
  have gf1 := hg1.free 1
  have gf2 := hg1.free 2
  have ef := he1.free 0
  simp only [List.getElem?_cons_zero, List.getElem?_cons_succ] at g0 g1 g2 e0
  clear hf hfe hg he hg1 he1
  refine callsD_of_wpS Tryd.func30 rfl fun c₀ cs hu => ?_
  apply wpS_seq
  apply wpS_region
  simp [wpOpsS, go_sem, recoverD, hu, Tryd.ntmps30, Exit.thenS, manyChain]
  refine wpS_of_wp ?_
  simp only [Array.replicate, List.replicate, List.setIfInBounds_toArray, List.set_cons_zero, List.set_cons_succ, List.append_toArray, List.cons_append, List.nil_append]
  go_wp2
  simp [bodyPostS, results, Tryd.results30]
  exact ⟨HF.out, HE.out, HB.out⟩

set_option maxRecDepth 100000 in
theorem of1_idle (bg be : Nat) (w : World) :
    CallsD Tryd.prog 30 #[.pointer (some ⟨bg, 0, none⟩), .pointer (some ⟨be, 0, none⟩)] .returning w fun e u' w' => e = .returned (.tuple #[]) ∧ u' = .returning ∧ w' = w := by
  refine callsD_of_wpS Tryd.func30 rfl fun c₀ cs hu => ?_
  apply wpS_seq
  apply wpS_region
  simp [wpOpsS, go_sem, recoverD, hu, Tryd.ntmps30, Exit.thenS]
  refine wpS_of_wp ?_
  simp only [Array.replicate, List.replicate, List.setIfInBounds_toArray, List.set_cons_zero, List.set_cons_succ, List.append_toArray, List.cons_append, List.nil_append]
  go_wp2
  cases c₀
  simp_all [bodyPostS, results, Tryd.results30]
end Go.Proofs.YtelanndleinabaaDoor
