/- The walks of within, and of the function values of ways and sets. -/
import Derived.Test.YtelanndleinabaaDoorARead
import Derived.Laws.BitsAllLaws
import Derived.Test.YtelanndleinabaaDoorShelf
namespace Go.Proofs.YtelanndleinabaaDoor
open Go.RowKit
set_option linter.unusedVariables false

theorem enters67 : ∀ args w, (callFunc 67 args).run Tryd.prog w = .ok (.enter 67 args) w := enters_of Tryd.func67 (by decide) rfl
theorem enters60 : ∀ args w, (callFunc 60 args).run Tryd.prog w = .ok (.enter 60 args) w := enters_of Tryd.func60 (by decide) rfl
theorem enters49 : ∀ args w, (callFunc 49 args).run Tryd.prog w = .ok (.enter 49 args) w := enters_of Tryd.func49 (by decide) rfl

def hasI (ys : List Int) (x : Int) : Bool := ys.any fun y => x == y
/-- Are all of a in b? -/
def withinI (a b : List Int) : Bool := !(a.any fun n => !hasI b n)

set_option maxRecDepth 100000 in
theorem within1 (x : Int) (b : Nat) (v : Value) (ys : List Int) (w : World) (hc : w.cell? ⟨b, 0, none⟩ = some v) (hv : RowI w.heap.size w v ys) :
    Calls Tryd.prog 67 #[.int .i64 x, .pointer (some ⟨b, 0, none⟩)] w fun e w' => e = .returned (.bool (!hasI ys x)) ∧ w' = w := by
  have hC := Lib.hid (containsInt x w.heap.size v ys w hv)
  obtain ⟨a, cap, rfl, _, _⟩ := hv.form
  clear hv
  go_enter Tryd.func67, Tryd.ntmps67
  go_wp2_with (fail)
  refine (hC.out).mono ?_
  rintro e w ⟨rfl, rfl⟩
  go_wp2
  go_ret
  exact ⟨rfl, rfl⟩

set_option maxRecDepth 100000 in
theorem withinFn (va vb : Value) (xs ys : List Int) (w : World) (ha : RowI w.heap.size w va xs) (hb : RowI w.heap.size w vb ys) :
    Calls Tryd.prog 61 #[va, vb] w fun e w' => e = .returned (.bool (withinI xs ys)) ∧ Below w.heap.size w w' := by
  obtain ⟨a2, cap2, rfl, _, _⟩ := hb.form
  have hB : Below w.heap.size w (w.alloc (.cells #[.slice a2 ys.length cap2] 22)) := (Below.refl _ _).alloc (Nat.le_refl _) _
  have hc : (w.alloc (.cells #[.slice a2 ys.length cap2] 22)).cell? ⟨w.heap.size, 0, none⟩ = some (.slice a2 ys.length cap2) := (Holds.new w 22 #[.slice a2 ys.length cap2]).cell 0
  have hC := Lib.hid (containsFunc 67 #[.pointer (some ⟨w.heap.size, 0, none⟩)] enters67 (fun x => !hasI ys x) (w.alloc (.cells #[.slice a2 ys.length cap2] 22)).heap.size va xs (w.alloc (.cells #[.slice a2 ys.length cap2] 22)) ((ha.below hB).mono hB.size) (fun x _ => within1 x w.heap.size (.slice a2 ys.length cap2) ys _ hc ((hb.below hB).mono hB.size)))
  obtain ⟨a1, cap1, rfl, _, _⟩ := ha.form
  obtain ⟨n1, hn1⟩ : ∃ n, xs.length = n := ⟨_, rfl⟩
  obtain ⟨n2, hn2⟩ : ∃ n, ys.length = n := ⟨_, rfl⟩
  rw [hn1, hn2] at hC ⊢
  rw [hn2] at hB
  clear ha hb hc hn1 hn2
  go_enter Tryd.func61, Tryd.ntmps61
  go_wp2_with (fail)
  refine (hC.out).mono ?_
  rintro e w2 ⟨rfl, rfl⟩
  go_wp2
  go_ret
  exact ⟨rfl, hB⟩

/-- Could a move y have gone away with x: it asks no more, does not stay in f, and goes nowhere else. -/
def awayB (x : AMv) (f : Int) (y : AMv) : Bool := (y.yes &&& (18446744073709551615 - x.yes) == 0) && (y.no &&& (18446744073709551615 - x.no) == 0) && !hasI y.to f && withinI y.to x.to

set_option maxHeartbeats 1000000 in
set_option maxRecDepth 100000 in
theorem sets1 (x y : AP) (f : Int) (bx bf : Nat) (w : World) (hx0 : w.cell? ⟨bx, 0, none⟩ = some (.int .u64 (x.1.yes : Int))) (hx1 : w.cell? ⟨bx, 1, none⟩ = some (.int .u64 (x.1.no : Int))) (hx2 : w.cell? ⟨bx, 2, none⟩ = some x.2)
    (hf : w.cell? ⟨bf, 0, none⟩ = some (.int .i64 f)) (hxt : RowI w.heap.size w x.2 x.1.to) (hyt : RowI w.heap.size w y.2 y.1.to)
    (b1 : x.1.yes < 18446744073709551616) (b2 : x.1.no < 18446744073709551616) (b3 : y.1.yes < 18446744073709551616) (b4 : y.1.no < 18446744073709551616) (hbx : bx < w.heap.size) (hbf : bf < w.heap.size) :
    Calls Tryd.prog 60 #[apVal y, .pointer (some ⟨bx, 0, none⟩), .pointer (some ⟨bf, 0, none⟩)] w fun e w' => e = .returned (.bool (awayB x.1 f y.1)) ∧ Below w.heap.size w w' := by
  obtain ⟨⟨xy, xn, xt⟩, xv⟩ := x
  obtain ⟨⟨yy, yn, yt⟩, yv⟩ := y
  simp only [apVal] at *
  unfold awayB
  simp only
  have hB : Below w.heap.size w (w.alloc (.cells #[.int .u64 (yy : Int), .int .u64 (yn : Int), yv] 89)) := (Below.refl _ _).alloc (Nat.le_refl _) _
  have hY := Holds.new w 89 #[.int .u64 (yy : Int), .int .u64 (yn : Int), yv]
  have hC := Lib.hid (containsInt f (w.alloc (.cells #[.int .u64 (yy : Int), .int .u64 (yn : Int), yv] 89)).heap.size yv yt _ ((hyt.below hB).mono hB.size))
  have hW := Lib.hid (withinFn yv xv yt xt _ ((hyt.below hB).mono hB.size) ((hxt.below hB).mono hB.size))
  obtain ⟨a1, cap1, rfl, _, _⟩ := hyt.form
  obtain ⟨a2, cap2, rfl, _, _⟩ := hxt.form
  have e1 := u64_andNot_nat yy xy b3 b1
  have e2 := u64_andNot_nat yn xn b4 b2
  have hcell : ∀ j, (w.alloc (.cells #[.int .u64 (yy : Int), .int .u64 (yn : Int), .slice a1 yt.length cap1] 89)).cell? ⟨bx, j, none⟩ = w.cell? ⟨bx, j, none⟩ := fun j => cell_below hB hbx j
  have hcf : (w.alloc (.cells #[.int .u64 (yy : Int), .int .u64 (yn : Int), .slice a1 yt.length cap1] 89)).cell? ⟨bf, 0, none⟩ = some (.int .i64 f) := (cell_below hB hbf 0).trans hf
  have g0 := (hcell 0).trans hx0
  have g1 := (hcell 1).trans hx1
  have g2 := (hcell 2).trans hx2
  have q0 := hY.cell 0
  have q1 := hY.cell 1
  have q2 := hY.cell 2
  simp only [List.getElem?_cons_zero, List.getElem?_cons_succ] at q0 q1 q2
  obtain ⟨n1, hn1⟩ : ∃ n, yt.length = n := ⟨_, rfl⟩
  obtain ⟨n2, hn2⟩ : ∃ n, xt.length = n := ⟨_, rfl⟩
  rw [hn1] at hC hW hB q0 q1 q2 g0 g1 g2 hcf ⊢
  rw [hn2] at hW hx2 g2
  generalize yy &&& (18446744073709551615 - xy) = c at e1 ⊢
  generalize yn &&& (18446744073709551615 - xn) = d at e2 ⊢
  generalize hhs : hasI yt f = hs
  have hC' : Hid (Calls Tryd.prog 32 #[.slice a1 n1 cap1, .int .i64 f] (w.alloc (.cells #[.int .u64 (yy : Int), .int .u64 (yn : Int), .slice a1 n1 cap1] 89)) fun e w' => e = .returned (.bool hs) ∧ w' = (w.alloc (.cells #[.int .u64 (yy : Int), .int .u64 (yn : Int), .slice a1 n1 cap1] 89))) := by
    rw [← hhs]; exact hC
  clear hC hhs hcell hx0 hx1 hx2 hf hxt hyt hY b1 b2 b3 b4 hn1 hn2
  by_cases hc : c = 0
  · have hc' : ((c : Int) == 0) = true := by simp [hc]
    by_cases hd : d = 0
    · have hd' : ((d : Int) == 0) = true := by simp [hd]
      cases hs
      · have hr : (c == 0 && d == 0 && !false && withinI yt xt) = withinI yt xt := by simp [hc, hd]
        rw [hr]
        clear hc hd hr
        go_enter Tryd.func60, Tryd.ntmps60
        go_wp2_with (fail)
        refine (hC'.out).mono ?_
        rintro e w2 ⟨rfl, rfl⟩
        go_wp2_with (fail)
        refine (hW.out).mono ?_
        rintro e w3 ⟨rfl, hb3⟩
        have hB3 := hB.trans (hb3.mono hB.size)
        go_wp2
        go_ret
        exact ⟨rfl, hB3⟩
      · have hr : (c == 0 && d == 0 && !true && withinI yt xt) = false := by simp
        rw [hr]
        clear hc hd hr
        go_enter Tryd.func60, Tryd.ntmps60
        go_wp2_with (fail)
        refine (hC'.out).mono ?_
        rintro e w2 ⟨rfl, rfl⟩
        go_wp2
        go_ret
        exact ⟨rfl, hB⟩
    · have hd' : ((d : Int) == 0) = false := by simp; omega
      have hr : (c == 0 && d == 0 && !hs && withinI yt xt) = false := by simp [hd]
      rw [hr]
      clear hc hd hr
      go_enter Tryd.func60, Tryd.ntmps60
      go_wp2
      go_ret
      exact ⟨rfl, hB⟩
  · have hc' : ((c : Int) == 0) = false := by simp; omega
    have hr : (c == 0 && d == 0 && !hs && withinI yt xt) = false := by simp [hc]
    rw [hr]
    clear hc hr
    go_enter Tryd.func60, Tryd.ntmps60
    go_wp2
    go_ret
    exact ⟨rfl, hB⟩
end Go.Proofs.YtelanndleinabaaDoor
