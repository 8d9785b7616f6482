/- Graphs: plain, and in memory. -/
import Derived.Test.YtpednhcfkjjcpaaMg1
import Derived.Laws.Cover3
namespace Go.Proofs.Ytpednhcfkjjcpaa
open Go.RowKit
set_option linter.unusedVariables false
set_option linter.unusedSimpArgs false

structure PArc where
  proc : Int
  to : Int
  bad : Int
  reads : List Int
  writes : List Int
  turns : Nat
structure PNode where
  arcs : List PArc
  props : Nat
  fin : Bool
  prog : Bool
  acc : Bool
abbrev PNet := List PNode
def intV (n : Int) : Value := .int .i64 n

def ArcF (P : Nat → Prop) (w : World) (a : PArc) (c : List Value) : Prop :=
  ∃ vr vw, c = [.int .i64 a.proc, .int .i64 a.to, .int .i64 a.bad, vr, vw, .int .u64 (a.turns : Int)] ∧ RowL P w 1 vr a.reads.length (a.reads.map intV) ∧ RowL P w 1 vw a.writes.length (a.writes.map intV)
def ArcsV (P : Nat → Prop) (w : World) (v : Value) (l : List PArc) : Prop := ∃ f, RowL P w 6 v l.length f ∧ LsF ArcF P w l f
def NodeF (P : Nat → Prop) (w : World) (x : PNode) (c : List Value) : Prop :=
  ∃ va, c = [va, .int .u64 (x.props : Int), .bool x.fin, .bool x.prog, .bool x.acc] ∧ ArcsV P w va x.arcs
def NetV (P : Nat → Prop) (w : World) (v : Value) (n : PNet) : Prop := ∃ f, RowL P w 5 v n.length f ∧ LsF NodeF P w n f
theorem RowL.cell1 {P : Nat → Prop} {w : World} {s n : Nat} {v : Value} {f : List Value} (h : RowL P w s v n f) : v.oneCell' = true := by
  obtain ⟨a, c, rfl, _⟩ := h.form
  rfl
theorem ArcF.up {P : Nat → Prop} {w w' : World} (hu : Keep P w w') {a : PArc} {c : List Value} (h : ArcF P w a c) : ArcF P w' a c := by
  obtain ⟨vr, vw, h1, h2, h3⟩ := h
  exact ⟨vr, vw, h1, h2.up hu, h3.up hu⟩
theorem ArcF.mono {P Q : Nat → Prop} {w : World} (hl : Wide P Q w) {a : PArc} {c : List Value} (h : ArcF P w a c) : ArcF Q w a c := by
  obtain ⟨vr, vw, h1, h2, h3⟩ := h
  exact ⟨vr, vw, h1, h2.mono hl, h3.mono hl⟩
theorem oneArc : One ArcF 6 := ⟨fun ⟨vr, vw, h, _⟩ => by rw [h]; rfl, fun ⟨vr, vw, h, h2, h3⟩ => by
  rw [h]; simp [h2.cell1, h3.cell1]; simp [Value.oneCell'], fun hu h => ArcF.up hu h⟩
theorem ArcsV.up {P : Nat → Prop} {w w' : World} (hu : Keep P w w') {v : Value} {l : List PArc} (h : ArcsV P w v l) : ArcsV P w' v l := by
  obtain ⟨f, h1, h2⟩ := h
  exact ⟨f, h1.up hu, LsF.up (fun _ _ => ArcF.up hu) l h2⟩
theorem ArcsV.mono {P Q : Nat → Prop} {w : World} (hl : Wide P Q w) {v : Value} {l : List PArc} (h : ArcsV P w v l) : ArcsV Q w v l := by
  obtain ⟨f, h1, h2⟩ := h
  exact ⟨f, h1.mono hl, LsF.mono (fun _ _ => ArcF.mono hl) l h2⟩
theorem NodeF.up {P : Nat → Prop} {w w' : World} (hu : Keep P w w') {a : PNode} {c : List Value} (h : NodeF P w a c) : NodeF P w' a c := by
  obtain ⟨va, h1, h2⟩ := h
  exact ⟨va, h1, h2.up hu⟩
theorem NodeF.mono {P Q : Nat → Prop} {w : World} (hl : Wide P Q w) {a : PNode} {c : List Value} (h : NodeF P w a c) : NodeF Q w a c := by
  obtain ⟨va, h1, h2⟩ := h
  exact ⟨va, h1, h2.mono hl⟩
theorem oneNode : One NodeF 5 := ⟨fun ⟨va, h, _⟩ => by rw [h]; rfl, fun ⟨va, h, f, h2, _⟩ => by
  rw [h]; simp [h2.cell1]; simp [Value.oneCell'], fun hu h => NodeF.up hu h⟩
theorem NetV.up {P : Nat → Prop} {w w' : World} (hu : Keep P w w') {v : Value} {l : PNet} (h : NetV P w v l) : NetV P w' v l := by
  obtain ⟨f, h1, h2⟩ := h
  exact ⟨f, h1.up hu, LsF.up (fun _ _ => NodeF.up hu) l h2⟩
theorem NetV.mono {P Q : Nat → Prop} {w : World} (hl : Wide P Q w) {v : Value} {l : PNet} (h : NetV P w v l) : NetV Q w v l := by
  obtain ⟨f, h1, h2⟩ := h
  exact ⟨f, h1.mono hl, LsF.mono (fun _ _ => NodeF.mono hl) l h2⟩
theorem LsF.one {A : Type} {F : (Nat → Prop) → World → A → List Value → Prop} {n : Nat} (H : One F n) {P : Nat → Prop} {w : World} : ∀ (l : List A) {f : List Value}, LsF F P w l f → ∀ u ∈ f, u.oneCell' = true
  | [], f, h, u, hu => by
    obtain rfl := h
    cases hu
  | a :: l, f, ⟨c, r, h1, h2, h3⟩, u, hu => by
    subst h1
    rcases List.mem_append.1 hu with h | h
    · exact List.all_eq_true.1 (H.one h2) u h
    · exact LsF.one H l h3 u h
theorem run_eq_nil {P : Program} (w : World) (t e : TypeId) (a : Option Addr) (n c : Nat) (h : P.underlying t = some (.slice e)) : (binOp .eql t (.slice a n c) (.slice none 0 0)).run P w = .ok (.bool a.isNone) w := by
  simp [binOp, go_sem, run_equal_slice_nil w t e a n c h]
theorem info_arc : (Try.prog.info? 86).map (fun i => (i.zero.map fun z => z.cells.size, i.size, i.bytes)) = some (some 6, 6, 80) := by kernel_rfl
theorem info_node : (Try.prog.info? 81).map (fun i => (i.zero.map fun z => z.cells.size, i.size, i.bytes)) = some (some 5, 5, 40) := by kernel_rfl
theorem info_int : (Try.prog.info? 3).map (fun i => (i.zero.map fun z => z.cells.size, i.size, i.bytes)) = some (some 1, 1, 8) := by kernel_rfl
theorem sz_Arc : (Try.prog.info? 86).map (·.size) = some 6 := by kernel_rfl
theorem sz_Node : (Try.prog.info? 81).map (·.size) = some 5 := by kernel_rfl
theorem sz_Move : (Try.prog.info? 75).map (·.size) = some 9 := by kernel_rfl

def cloneIntsPost (w : World) (n : Nat) (f : List Value) (e : Ending) (w' : World) : Prop := Below w.heap.size w w' ∧ ∃ v, e = .returned v ∧ (v = .slice none 0 0 ∨ w'.ownsRow w.heap.size 3 1 v n f) ∧ RowL (From w.heap.size) w' 1 v n f
set_option maxHeartbeats 1000000 in
set_option maxRecDepth 100000 in
theorem cloneIntsFn {P : Nat → Prop} {w : World} {v : Value} {n : Nat} {f : List Value} (h : RowL P w 1 v n f) (hone : ∀ u ∈ f, u.oneCell' = true) (hn : n ≤ 2000000) : Calls Try.prog 24 #[v] w (cloneIntsPost w n f) := by
  obtain ⟨i0, z0, hi0, hz0, hz1, hz2, hz3⟩ := info_of info_int
  have H := Lib.hid h
  obtain ⟨a, c, rfl, hc1, hc2, hc3⟩ := h.form
  cases a with
  | none =>
    obtain rfl := hc3 rfl
    obtain rfl : n = 0 := by omega
    have he := run_eq_nil (P := Try.prog) w 47 3 none 0 0 Try.underlying47
    clear h
    go_enter Try.func24, Try.ntmps24
    go_wp2
    go_ret
    exact ⟨Below.refl _ _, _, rfl, .inl rfl, by
      have hl : f.length = 0 := by obtain ⟨_, _, _, _, _, h4, _⟩ := H.out; simpa using h4
      rw [List.eq_nil_of_length_eq_zero hl]; exact RowL.nil _ _ _⟩
  | some ad =>
    have H1 := Lib.hid hone
    have HN := Lib.hid hn
    have HW : Hid ((w.alloc (.cells #[] 3)).ownsRow w.heap.size 3 1 (.slice (some ⟨w.heap.size, 0, none⟩) 0 0) 0 []) := by
      refine ⟨by simp, .inr ⟨w.heap.size, 0, #[], rfl, Nat.le_refl _, ?_, Nat.le_refl _, by unfold maxLen; omega, by simp, by simp⟩⟩
      exact Holds.new w 3 #[]
    have HH := Lib.hid (H.out.up (Keep.below ((Below.refl w.heap.size w).alloc (Nat.le_refl _) (.cells #[] 3))))
    have he := run_eq_nil (P := Try.prog) w 47 3 (some ad) n c Try.underlying47
    clear h hone hn hc1 hc2 hc3
    go_enter Try.func24, Try.ntmps24
    go_wp2_with (at_builtin; refine wpList_append_row rfl (.tmp 5) (.tmp 6) _ rfl w.heap.size 3 i0 z0 1 8 Try.underlying47 hi0 hz0 hz1 hz2 hz3 (by omega) (.slice (some ⟨w.heap.size, 0, none⟩) 0 0) 0 [] rfl HW.out _ n f rfl HH.out H1.out (by have := HN.out; unfold maxLen; omega) (by have := HN.out; omega) (by simp) ?_)
    intro v' w2 hown hgr hat
    have hB : Below w.heap.size w w2 := ((Below.refl w.heap.size w).alloc (Nat.le_refl _) (.cells #[] 3)).grown hgr (by simp) fun k hk => by simp [Value.ownBlock] at hk; omega
    have HF : Hid (cloneIntsPost w n f (.returned v') w2) := by
      refine ⟨hB, v', rfl, .inr ?_, RowL.of_owns (base := w.heap.size) (e := 3) ?_ fun _ h => h⟩
      · simpa using hown
      · simpa using hown
    clear hB hown hgr hat HW HH
    go_wp2
    go_ret
    exact HF.out
def cloneArcsPost (w : World) (n : Nat) (f : List Value) (e : Ending) (w' : World) : Prop := Below w.heap.size w w' ∧ ∃ v, e = .returned v ∧ (v = .slice none 0 0 ∨ w'.ownsRow w.heap.size 86 6 v n f) ∧ RowL (From w.heap.size) w' 6 v n f
set_option maxHeartbeats 1000000 in
set_option maxRecDepth 100000 in
theorem cloneArcsFn {P : Nat → Prop} {w : World} {v : Value} {n : Nat} {f : List Value} (h : RowL P w 6 v n f) (hone : ∀ u ∈ f, u.oneCell' = true) (hn : n ≤ 2000000) : Calls Try.prog 23 #[v] w (cloneArcsPost w n f) := by
  obtain ⟨i0, z0, hi0, hz0, hz1, hz2, hz3⟩ := info_of info_arc
  have H := Lib.hid h
  obtain ⟨a, c, rfl, hc1, hc2, hc3⟩ := h.form
  cases a with
  | none =>
    obtain rfl := hc3 rfl
    obtain rfl : n = 0 := by omega
    have he := run_eq_nil (P := Try.prog) w 79 86 none 0 0 Try.underlying79
    clear h
    go_enter Try.func23, Try.ntmps23
    go_wp2
    go_ret
    exact ⟨Below.refl _ _, _, rfl, .inl rfl, by
      have hl : f.length = 0 := by obtain ⟨_, _, _, _, _, h4, _⟩ := H.out; simpa using h4
      rw [List.eq_nil_of_length_eq_zero hl]; exact RowL.nil _ _ _⟩
  | some ad =>
    have H1 := Lib.hid hone
    have HN := Lib.hid hn
    have HW : Hid ((w.alloc (.cells #[] 86)).ownsRow w.heap.size 86 6 (.slice (some ⟨w.heap.size, 0, none⟩) 0 0) 0 []) := by
      refine ⟨by simp, .inr ⟨w.heap.size, 0, #[], rfl, Nat.le_refl _, ?_, Nat.le_refl _, by unfold maxLen; omega, by simp, by simp⟩⟩
      exact Holds.new w 86 #[]
    have HH := Lib.hid (H.out.up (Keep.below ((Below.refl w.heap.size w).alloc (Nat.le_refl _) (.cells #[] 86))))
    have he := run_eq_nil (P := Try.prog) w 79 86 (some ad) n c Try.underlying79
    clear h hone hn hc1 hc2 hc3
    go_enter Try.func23, Try.ntmps23
    go_wp2_with (at_builtin; refine wpList_append_row rfl (.tmp 5) (.tmp 6) _ rfl w.heap.size 86 i0 z0 6 80 Try.underlying79 hi0 hz0 hz1 hz2 hz3 (by omega) (.slice (some ⟨w.heap.size, 0, none⟩) 0 0) 0 [] rfl HW.out _ n f rfl HH.out H1.out (by have := HN.out; unfold maxLen; omega) (by have := HN.out; omega) (by simp) ?_)
    intro v' w2 hown hgr hat
    have hB : Below w.heap.size w w2 := ((Below.refl w.heap.size w).alloc (Nat.le_refl _) (.cells #[] 86)).grown hgr (by simp) fun k hk => by simp [Value.ownBlock] at hk; omega
    have HF : Hid (cloneArcsPost w n f (.returned v') w2) := by
      refine ⟨hB, v', rfl, .inr ?_, RowL.of_owns (base := w.heap.size) (e := 86) ?_ fun _ h => h⟩
      · simpa using hown
      · simpa using hown
    clear hB hown hgr hat HW HH
    go_wp2
    go_ret
    exact HF.out
def cloneNodesPost (w : World) (n : Nat) (f : List Value) (e : Ending) (w' : World) : Prop := Below w.heap.size w w' ∧ ∃ v, e = .returned v ∧ (v = .slice none 0 0 ∨ w'.ownsRow w.heap.size 81 5 v n f) ∧ RowL (From w.heap.size) w' 5 v n f
set_option maxHeartbeats 1000000 in
set_option maxRecDepth 100000 in
theorem cloneNodesFn {P : Nat → Prop} {w : World} {v : Value} {n : Nat} {f : List Value} (h : RowL P w 5 v n f) (hone : ∀ u ∈ f, u.oneCell' = true) (hn : n ≤ 2000000) : Calls Try.prog 22 #[v] w (cloneNodesPost w n f) := by
  obtain ⟨i0, z0, hi0, hz0, hz1, hz2, hz3⟩ := info_of info_node
  have H := Lib.hid h
  obtain ⟨a, c, rfl, hc1, hc2, hc3⟩ := h.form
  cases a with
  | none =>
    obtain rfl := hc3 rfl
    obtain rfl : n = 0 := by omega
    have he := run_eq_nil (P := Try.prog) w 22 81 none 0 0 Try.underlying22
    clear h
    go_enter Try.func22, Try.ntmps22
    go_wp2
    go_ret
    exact ⟨Below.refl _ _, _, rfl, .inl rfl, by
      have hl : f.length = 0 := by obtain ⟨_, _, _, _, _, h4, _⟩ := H.out; simpa using h4
      rw [List.eq_nil_of_length_eq_zero hl]; exact RowL.nil _ _ _⟩
  | some ad =>
    have H1 := Lib.hid hone
    have HN := Lib.hid hn
    have HW : Hid ((w.alloc (.cells #[] 81)).ownsRow w.heap.size 81 5 (.slice (some ⟨w.heap.size, 0, none⟩) 0 0) 0 []) := by
      refine ⟨by simp, .inr ⟨w.heap.size, 0, #[], rfl, Nat.le_refl _, ?_, Nat.le_refl _, by unfold maxLen; omega, by simp, by simp⟩⟩
      exact Holds.new w 81 #[]
    have HH := Lib.hid (H.out.up (Keep.below ((Below.refl w.heap.size w).alloc (Nat.le_refl _) (.cells #[] 81))))
    have he := run_eq_nil (P := Try.prog) w 22 81 (some ad) n c Try.underlying22
    clear h hone hn hc1 hc2 hc3
    go_enter Try.func22, Try.ntmps22
    go_wp2_with (at_builtin; refine wpList_append_row rfl (.tmp 5) (.tmp 6) _ rfl w.heap.size 81 i0 z0 5 40 Try.underlying22 hi0 hz0 hz1 hz2 hz3 (by omega) (.slice (some ⟨w.heap.size, 0, none⟩) 0 0) 0 [] rfl HW.out _ n f rfl HH.out H1.out (by have := HN.out; unfold maxLen; omega) (by have := HN.out; omega) (by simp) ?_)
    intro v' w2 hown hgr hat
    have hB : Below w.heap.size w w2 := ((Below.refl w.heap.size w).alloc (Nat.le_refl _) (.cells #[] 81)).grown hgr (by simp) fun k hk => by simp [Value.ownBlock] at hk; omega
    have HF : Hid (cloneNodesPost w n f (.returned v') w2) := by
      refine ⟨hB, v', rfl, .inr ?_, RowL.of_owns (base := w.heap.size) (e := 81) ?_ fun _ h => h⟩
      · simpa using hown
      · simpa using hown
    clear hB hown hgr hat HW HH
    go_wp2
    go_ret
    exact HF.out
end Go.Proofs.Ytpednhcfkjjcpaa
