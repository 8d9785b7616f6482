/- Exp, Two, Nets, Emp, Known, Agn, joined. -/
import Derived.Test.YtokkjifmgmngjaaMg2
import Derived.Test.YtokkjifmgmngjaaMov
import Derived.TacticsInMore
import Derived.Carry
import Derived.Shelf.Abstract
import Derived.Test.YtokkjifmgmngjaaNode
import Derived.Test.YtokkjifmgmngjaaChk
import Derived.Deep.RegionHeld3
section
/- The walk of net.Explore at a graph's system. -/
namespace Go.Proofs.Ytokkjifmgmngjaa
open Go.RowKit Go.Maps
set_option linter.unusedVariables false
set_option linter.unusedSimpArgs false
attribute [local go_sem] Oper.semAt_some run_makeMap

theorem wpIn_at {F : Fence} {n : Nat} {P : Program} {c : Code} {Q : Exit → Act → World → Prop} {t : Array Value} {d : List Deferred} {w : World} (h : ∀ T, T = t → c.wpIn F n P Q { tmps := T, defers := d } w) : c.wpIn F n P Q { tmps := t, defers := d } w := h t rfl
theorem wpIn_cut {F : Fence} {n : Nat} {P : Program} {c : Code} {K : Act → World → Prop} {R : Exit → Act → World → Prop} {a : Act} {w : World} (Mid : Act → World → Prop) (h : c.wpIn F n P (Exit.then Mid R) a w) (hk : ∀ a' w', Mid a' w' → K a' w') : c.wpIn F n P (Exit.then K R) a w :=
  Code.wpIn_mono (fun e a w q => by cases e <;> first | exact hk _ _ q | exact q) h
theorem wpIn_seq2 {F : Fence} {n : Nat} {P : Program} {c x y : Code} {Q : Exit → Act → World → Prop} {a : Act} {w : World} (Mid : Act → World → Prop) (h : c.wpIn F n P (Exit.then (fun a w => x.wpIn F n P (Exit.then Mid Q) a w) Q) a w) (hk : ∀ a' w', Mid a' w' → y.wpIn F n P Q a' w') : (Code.seq c (Code.seq x y)).wpIn F n P Q a w :=
  wpIn_seq (Code.wpIn_mono (fun e a w q => by
    cases e with
    | normal => exact wpIn_seq (Code.wpIn_mono (fun e a w q => by cases e <;> first | exact hk _ _ q | exact q) q)
    | _ => exact q) h)
theorem act_of {T : List Value} {F : (Nat → Value) → List Value} {d : List Deferred} (h : T = F (fun j => T.getD j undef)) : ∃ u, ({ tmps := T.toArray, defers := d } : Act) = { tmps := (F u).toArray, defers := d } := ⟨_, by rw [← h]⟩
theorem info_str : (Try.prog.info? 9).map (fun i => (i.zero.map fun z => z.cells.size, i.size, i.bytes)) = some (some 1, 1, 16) := by kernel_rfl
theorem sz_NetE : (Try.prog.info? 24).map (·.size) = some 1 := by kernel_rfl
theorem sz_Nodes : (Try.prog.info? 22).map (·.size) = some 1 := by kernel_rfl
theorem sz_Strs : (Try.prog.info? 59).map (·.size) = some 1 := by kernel_rfl
theorem sz_Errno : (Try.prog.info? 28).map (·.size) = some 1 := by kernel_rfl
theorem sz_Int : (Try.prog.info? 3).map (·.size) = some 1 := by kernel_rfl
/-- The walk stands still here. -/
structure Stop (p : Prop) : Prop where
  out : p
section
variable {F : Fence} {n : Nat} {P : Program} {ops : Array Oper} {Q : Exit → Act → World → Prop} {a : Act} {w : World} {rest : List Oper} {o : Oper}
theorem stop_store (ty : TypeId) (x y : Operand) (ho : o.op = .store ty x y) (h : Stop (wpListIn F n P ops Q (o :: rest) a w)) : wpListIn F n P ops Q (o :: rest) a w := h.out
theorem stop_call (c : Call) (ho : o.op = .call c) (h : Stop (wpListIn F n P ops Q (o :: rest) a w)) : wpListIn F n P ops Q (o :: rest) a w := h.out
end
theorem load_strs {w : World} {b : Nat} {v : Value} (h : Holds w b 59 [v]) : (loadVar 59 ⟨b, 0, none⟩).run Try.prog w = .ok v w := by
  have d := h.cell 0
  simp only [List.getElem?_cons_zero] at d
  simp [go_sem, d]
theorem load_errno {w : World} {b : Nat} {v : Value} (h : Holds w b 28 [v]) : (loadVar 28 ⟨b, 0, none⟩).run Try.prog w = .ok v w := by
  have d := h.cell 0
  simp only [List.getElem?_cons_zero] at d
  simp [go_sem, d]
theorem methBegin (v : Value) (w : World) : (method 225 53 (.agg #[v]) "Begin").run Try.prog w = .ok (42, .agg #[v]) w := by kernel_rfl
theorem methLook (v : Value) (w : World) : (method 225 53 (.agg #[v]) "Look").run Try.prog w = .ok (43, .agg #[v]) w := by kernel_rfl
theorem methNext (v : Value) (w : World) : (method 225 53 (.agg #[v]) "Next").run Try.prog w = .ok (44, .agg #[v]) w := by kernel_rfl
theorem IterV.lower {w : World} {a b : Nat} {f v : Value} {s : ByteArray} (h : IterV w a f v s) (hb : b ≤ a) : IterV w b f v s := by
  obtain ⟨b0, b1, h1, h2, h3, h4, h5⟩ := h
  exact ⟨b0, b1, h1, h2, h3, by omega, by omega⟩
def sightC (x : PNode) : List Value := [.int .u64 (x.props : Int), .bool x.fin, .bool x.prog, .bool x.acc]
theorem sight_agg (x : PNode) : sight x = .agg (sightC x).toArray := rfl
theorem nilLook (v : Value) (w : World) : (nilAhead 225 53 (.agg #[v]) "Look").run Try.prog w = .ok (some false) w := by kernel_rfl
theorem nilNext (v : Value) (w : World) : (nilAhead 225 53 (.agg #[v]) "Next").run Try.prog w = .ok (some false) w := by kernel_rfl
end Go.Proofs.Ytokkjifmgmngjaa
end
section
/- The walk of the statements' two: a graph laid anew. -/
namespace Go.Proofs.Ytokkjifmgmngjaa
open Go.RowKit
set_option linter.unusedVariables false
set_option linter.unusedSimpArgs false

def twoN : PNet := [⟨[⟨1, 1, 0, [], [], 0⟩, ⟨0, 0, 1, [], [], 0⟩], 5, false, false, false⟩, ⟨[], 0, true, false, false⟩]
theorem sz_Net : (Try.prog.info? 24).map (·.size) = some 1 := by kernel_rfl
def TwoPost (w : World) (e : Ending) (w' : World) : Prop := Below w.heap.size w w' ∧ ∃ v, e = .returned (.agg #[v]) ∧ NetV (From w.heap.size) w' v twoN
end Go.Proofs.Ytokkjifmgmngjaa
end
section
/- The walks of the reference's Same and Nets at things that are the same (printed by mknets.py). -/
namespace Go.Proofs.Ytokkjifmgmngjaa
open Go.RowKit
set_option linter.unusedVariables false
set_option linter.unusedSimpArgs false

def Yes (w : World) (e : Ending) (w' : World) : Prop := e = .returned (.bool true) ∧ Below w.heap.size w w'
set_option maxHeartbeats 1000000 in
theorem sameFn {P P' : Nat → Prop} {w : World} {v v' : Value} {l : List Int} (h : RowL P w 1 v l.length (l.map intV)) (h' : RowL P' w 1 v' l.length (l.map intV)) (hn : l.length ≤ 2000000) : Calls Try.prog 21 #[v, v'] w (Yes w) := by
  obtain ⟨a, c, rfl, hc1, _, _⟩ := h.form
  obtain ⟨a', c', rfl, hc1', _, _⟩ := h'.form
  obtain ⟨N, hN⟩ : ∃ N, l.length = N := ⟨_, rfl⟩
  have H := Lib.hid h
  have H' := Lib.hid h'
  have HN := Lib.hid hN
  rw [hN] at hc1 hc1' hn
  rw [hN]
  clear h h' hN
  go_enter Try.func21, Try.ntmps21
  go_wp2
  go_loopw [5] (fun x wr => ∃ i : Nat, x = .int .i64 (i : Int) ∧ i ≤ N ∧ Hid (Below w.heap.size w wr)) (fun x _ => N - (intOf x).toNat)
  case atStart => exact ⟨0, rfl, Nat.zero_le _, Below.refl _ _⟩
  case round =>
    obtain ⟨i, hx, hi, HB⟩ := hrel
    subst hx
    by_cases hin : i < N
    · have hil : i < l.length := by rw [HN.out]; exact hin
      have hi2i : (i : Int) < (N : Int) := by omega
      have hi0i : (0 : Int) ≤ (i : Int) := by omega
      have hwii : IntKind.i64.wrap (i : Int) = (i : Int) := by rw [IntKind.wrap_i64]; omega
      have hwji : IntKind.i64.wrap ((i : Int) + 1) = (i : Int) + 1 := by rw [IntKind.wrap_i64]; omega
      obtain ⟨g, ob, cb, x, he1, hx1, hc1⟩ := (H.out.up (Keep.below HB.out)).at1 hil
      obtain ⟨g', ob', cb', x', he2, hx2, hc2⟩ := (H'.out.up (Keep.below HB.out)).at1 hil
      rw [hx1] at hx2
      injection hx2 with hx2
      subst hx2
      injection he1 with he1 _ he1'
      subst he1 he1'
      injection he2 with he2 _ he2'
      subst he2 he2'
      obtain ⟨q, hq⟩ : ∃ q : Int, x = .int .i64 q := by
        rw [List.getElem?_map, List.getElem?_eq_getElem hil] at hx1
        injection hx1 with hx1
        exact ⟨_, hx1.symm⟩
      subst hq
      clear hx1
      go_wp2
      go_quiet (fail)
      have HB2 : Hid (Below w.heap.size w (wr.drewN nq)) := ((Fr.of_below HB.out (fun _ => False)).drewN nq).to_below (Nat.le_refl _) fun _ _ h => h
      clear hc1 hc2 HB
      go_wp2
      refine ⟨⟨i + 1, by simp, by omega, HB2⟩, ?_⟩
      simp [intOf]
      omega
    · obtain rfl : i = N := by omega
      have HF : Hid (Yes w (.returned (.bool true)) wr) := ⟨rfl, HB.out⟩
      go_wp2
      go_ret
      exact HF.out
end Go.Proofs.Ytokkjifmgmngjaa
end
section
/- The walk of net.CheckThreads at no processes. -/
namespace Go.Proofs.Ytokkjifmgmngjaa
open Go.RowKit
set_option linter.unusedVariables false
set_option linter.unusedSimpArgs false

end Go.Proofs.Ytokkjifmgmngjaa
end
section
/- The walk of the statements' known: two processes' graph is explored, or refused. -/
namespace Go.Proofs.Ytokkjifmgmngjaa
open Go.RowKit Go.Maps
set_option linter.unusedVariables false
set_option linter.unusedSimpArgs false

theorem two_chk : chk twoN = true := by decide
theorem two_small : Small twoN := ⟨by decide, by decide, fun i hi j hj => by
  match i, hi, j, hj with
  | 0, _, 0, _ => exact ⟨by simp [twoN], by simp [twoN]⟩
  | 0, _, 1, _ => exact ⟨by simp [twoN], by simp [twoN]⟩
  | 0, _, j + 2, h => exact absurd h (by simp [twoN])
  | 1, _, j, h => exact absurd h (by simp [twoN])
  | i + 2, h, _, _ => exact absurd h (by simp [twoN])⟩
theorem two_ex2 : exF twoN 2 20001 0 [0] = some ([0, 1], twoN) := by rfl
theorem two_ex1 : exF twoN 1 20001 0 [0] = none := by rfl
theorem key1 : keyS 1 = ⟨#[1]⟩ := by
  unfold keyS
  rw [enc_lt (by omega)]
  rfl
end Go.Proofs.Ytokkjifmgmngjaa
end
section
/- The walk of NetAgain: a graph that is explored may be, and explored again it is the same. -/
namespace Go.Proofs.Ytokkjifmgmngjaa
open Go.RowKit Go.Maps
set_option linter.unusedVariables false
set_option linter.unusedSimpArgs false

theorem stepA_goes {most : Nat} {st st1 : List Nat} {a b : PArc} (h : stepA most st a = some (st1, b)) : ∃ t, b = a.goes t := by
  unfold stepA at h
  split at h
  · split at h
    · injection h with h; injection h with _ h; exact ⟨_, h.symm⟩
    · split at h
      · cases h
      · injection h with h; injection h with _ h; exact ⟨_, h.symm⟩
  · injection h with h; injection h with _ h; exact ⟨_, h.symm⟩
theorem stepAs_goes {most : Nat} : ∀ {l : List PArc} {st st1 : List Nat} {bs : List PArc}, stepAs most st l = some (st1, bs) → ∀ b ∈ bs, ∃ a ∈ l, ∃ t, b = a.goes t
  | [], st, st1, bs, h, b, hb => by
    rw [stepAs] at h; injection h with h; injection h with _ h; subst h; cases hb
  | a :: l, st, st1, bs, h, b, hb => by
    rw [stepAs] at h
    split at h
    · cases h
    · rename_i st' b1 e1
      split at h
      · cases h
      · rename_i st2 bs2 e2
        injection h with h; injection h with _ h; subst h
        rcases List.mem_cons.1 hb with rfl | hb
        · obtain ⟨t, ht⟩ := stepA_goes e1
          exact ⟨a, by simp, t, ht⟩
        · obtain ⟨a', ha, t, ht⟩ := stepAs_goes e2 b hb
          exact ⟨a', by simp [ha], t, ht⟩
theorem exF_goes {N : PNet} {most : Nat} : ∀ {fu i : Nat} {st st1 : List Nat} {out : PNet}, exF N most fu i st = some (st1, out) → ∀ x ∈ out, ∀ b ∈ x.arcs, ∃ y ∈ N, ∃ a ∈ y.arcs, ∃ t, b = a.goes t
  | 0, i, st, st1, out, h => by rw [exF] at h; cases h
  | fu + 1, i, st, st1, out, h => by
    rw [exF] at h
    split at h
    · injection h with h; injection h with _ h; subst h
      intro x hx; cases hx
    · split at h
      · cases h
      · rename_i y hy
        split at h
        · cases h
        · rename_i st' bs h1
          split at h
          · cases h
          · rename_i st2 out2 h2
            injection h with h; injection h with _ h; subst h
            intro x hx b hb
            rcases List.mem_cons.1 hx with rfl | hx
            · obtain ⟨a, ha, t, ht⟩ := stepAs_goes h1 b hb
              exact ⟨y, List.mem_of_getElem? hy, a, ha, t, ht⟩
            · exact exF_goes h2 x hx b hb
theorem Small.mem {N : PNet} (h : Small N) {y : PNode} (hy : y ∈ N) {a : PArc} (ha : a ∈ y.arcs) : a.reads.length ≤ 2000000 ∧ a.writes.length ≤ 2000000 := by
  obtain ⟨i, hi, rfl⟩ := List.getElem_of_mem hy
  obtain ⟨j, hj, rfl⟩ := List.getElem_of_mem ha
  exact h.reads i hi j hj
theorem small_chk {g : PNet} (hc : chk g = true) (hr : ∀ x ∈ g, ∀ b ∈ x.arcs, b.reads.length ≤ 2000000 ∧ b.writes.length ≤ 2000000) : Small g := by
  unfold chk at hc
  simp only [Bool.and_eq_true, decide_eq_true_eq] at hc
  exact ⟨by omega, by omega, fun i hi j hj => hr _ (List.getElem_mem hi) _ (List.getElem_mem hj)⟩
end Go.Proofs.Ytokkjifmgmngjaa
end
