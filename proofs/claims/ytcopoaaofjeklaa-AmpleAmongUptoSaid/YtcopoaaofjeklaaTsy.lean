/- Processes side by side: plain, and in memory; the walks of slices.Clone of their rows (printed by mktsy.py). -/
import Derived.Test.YtcopoaaofjeklaaMa5
namespace Go.Proofs.Ytcopoaaofjeklaa.G
open Go.RowKit
set_option linter.unusedVariables false
set_option linter.unusedSimpArgs false

structure TArc where
  dst : Int
  test : Bool
  obj : Int
  val : Int
  put : Bool
  sobj : Int
  sto : Int
  bad : Int
structure TNode where
  arcs : List TArc
  fin : Bool
  prog : Bool
  acc : Bool
structure TProp where
  obj : Int
  val : Int
structure PThr where
  init : List Int
  procs : List (List TNode)
  props : List TProp
def tarcC (a : TArc) : List Value := [.int .i64 a.dst, .bool a.test, .int .i64 a.obj, .int .i64 a.val, .bool a.put, .int .i64 a.sobj, .int .i64 a.sto, .int .i64 a.bad]
def TArcF (P : Nat → Prop) (w : World) (a : TArc) (c : List Value) : Prop := c = tarcC a
def TNodeF (P : Nat → Prop) (w : World) (x : TNode) (c : List Value) : Prop := ∃ va fa, c = [va, .bool x.fin, .bool x.prog, .bool x.acc] ∧ RowL P w 8 va x.arcs.length fa ∧ LsF TArcF P w x.arcs fa
def TProcF (P : Nat → Prop) (w : World) (p : List TNode) (c : List Value) : Prop := ∃ v f, c = [v] ∧ RowL P w 4 v p.length f ∧ LsF TNodeF P w p f
def TPropF (P : Nat → Prop) (w : World) (p : TProp) (c : List Value) : Prop := c = [.int .i64 p.obj, .int .i64 p.val]
theorem oneTArc : One TArcF 8 := ⟨fun h => by rw [h]; rfl, fun h => by rw [h]; simp [tarcC, Value.oneCell'], fun _ h => h⟩
theorem oneTProp : One TPropF 2 := ⟨fun h => by rw [h]; rfl, fun h => by rw [h]; simp [Value.oneCell'], fun _ h => h⟩
theorem TArcF.mono {P Q : Nat → Prop} {w : World} (hl : Wide P Q w) {a : TArc} {c : List Value} (h : TArcF P w a c) : TArcF Q w a c := h
theorem TPropF.mono {P Q : Nat → Prop} {w : World} (hl : Wide P Q w) {a : TProp} {c : List Value} (h : TPropF P w a c) : TPropF Q w a c := h
theorem TNodeF.up {P : Nat → Prop} {w w' : World} (hu : Keep P w w') {a : TNode} {c : List Value} (h : TNodeF P w a c) : TNodeF P w' a c := by
  obtain ⟨va, fa, h1, h2, h3⟩ := h
  exact ⟨va, fa, h1, h2.up hu, LsF.up (fun _ _ => oneTArc.up hu) _ h3⟩
theorem TNodeF.mono {P Q : Nat → Prop} {w : World} (hl : Wide P Q w) {a : TNode} {c : List Value} (h : TNodeF P w a c) : TNodeF Q w a c := by
  obtain ⟨va, fa, h1, h2, h3⟩ := h
  exact ⟨va, fa, h1, h2.mono hl, LsF.mono (fun _ _ => TArcF.mono hl) _ h3⟩
theorem oneTNode : One TNodeF 4 := ⟨fun ⟨va, _, h, _⟩ => by rw [h]; rfl, fun ⟨va, fa, h, h2, _⟩ => by
  rw [h]; simp [h2.cell1]; simp [Value.oneCell'], fun hu h => TNodeF.up hu h⟩
theorem TProcF.up {P : Nat → Prop} {w w' : World} (hu : Keep P w w') {a : List TNode} {c : List Value} (h : TProcF P w a c) : TProcF P w' a c := by
  obtain ⟨v, f, h1, h2, h3⟩ := h
  exact ⟨v, f, h1, h2.up hu, LsF.up (fun _ _ => TNodeF.up hu) _ h3⟩
theorem TProcF.mono {P Q : Nat → Prop} {w : World} (hl : Wide P Q w) {a : List TNode} {c : List Value} (h : TProcF P w a c) : TProcF Q w a c := by
  obtain ⟨v, f, h1, h2, h3⟩ := h
  exact ⟨v, f, h1, h2.mono hl, LsF.mono (fun _ _ => TNodeF.mono hl) _ h3⟩
theorem oneTProc : One TProcF 1 := ⟨fun ⟨v, f, h, _⟩ => by rw [h]; rfl, fun ⟨v, f, h, h2, _⟩ => by
  rw [h]; simp [h2.cell1], fun hu h => TProcF.up hu h⟩
/-- The rows of processes in memory. -/
structure ThrV (P : Nat → Prop) (w : World) (vi vp vq : Value) (t : PThr) : Prop where
  init : RowL P w 1 vi t.init.length (t.init.map intV)
  procs : ∃ f, RowL P w 1 vp t.procs.length f ∧ LsF TProcF P w t.procs f
  props : ∃ f, RowL P w 2 vq t.props.length f ∧ LsF TPropF P w t.props f
theorem ThrV.up {P : Nat → Prop} {w w' : World} (hu : Keep P w w') {vi vp vq : Value} {t : PThr} (h : ThrV P w vi vp vq t) : ThrV P w' vi vp vq t := by
  obtain ⟨h1, ⟨f, h2, h3⟩, g, h4, h5⟩ := h
  exact ⟨h1.up hu, ⟨f, h2.up hu, LsF.up (fun _ _ => TProcF.up hu) _ h3⟩, g, h4.up hu, LsF.up (fun _ _ => oneTProp.up hu) _ h5⟩
theorem ThrV.mono {P Q : Nat → Prop} {w : World} (hl : Wide P Q w) {vi vp vq : Value} {t : PThr} (h : ThrV P w vi vp vq t) : ThrV Q w vi vp vq t := by
  obtain ⟨h1, ⟨f, h2, h3⟩, g, h4, h5⟩ := h
  exact ⟨h1.mono hl, ⟨f, h2.mono hl, LsF.mono (fun _ _ => TProcF.mono hl) _ h3⟩, g, h4.mono hl, LsF.mono (fun _ _ => TPropF.mono hl) _ h5⟩
/-- The sizes that memory allows. -/
structure SmallT (t : PThr) : Prop where
  init : t.init.length ≤ 2000000
  procs : t.procs.length ≤ 2000000
  props : t.props.length ≤ 2000000
  nodes : ∀ p ∈ t.procs, p.length ≤ 2000000
  arcs : ∀ p ∈ t.procs, ∀ x ∈ p, x.arcs.length ≤ 2000000
/-- What may be. -/
structure OkA (n m : Nat) (a : TArc) : Prop where
  dst : 0 ≤ a.dst ∧ a.dst < m
  test : a.test = true → 0 ≤ a.obj ∧ a.obj < n
  put : a.put = true → (0 ≤ a.sobj ∧ a.sobj < n) ∧ 0 ≤ a.sto ∧ a.sto ≤ 255
structure OkT (t : PThr) : Prop where
  len : t.init.length ≤ 16 ∧ t.procs.length ≤ 8 ∧ t.props.length ≤ 60
  init : ∀ n ∈ t.init, 0 ≤ n ∧ n ≤ 255
  props : ∀ p ∈ t.props, 0 ≤ p.obj ∧ p.obj < t.init.length
  procs : ∀ p ∈ t.procs, 1 ≤ p.length ∧ p.length ≤ 60 ∧ ((p.map fun x => x.arcs.length).sum ≤ 1000) ∧ ∀ x ∈ p, ∀ a ∈ x.arcs, OkA t.init.length p.length a
/-- A state: the objects' values, the processes' nodes. -/
def inAll : List Nat → List (List TNode) → Bool
  | k :: l, p :: r => decide (k < p.length) && inAll l r
  | _, _ => true
def tstate (t : PThr) (s : ByteArray) : Option (List Nat × List Nat) :=
  match nums 20000 (t.init.length + t.procs.length) s.data.toList with
  | some (l, []) => if (l.take t.init.length).all (fun v => decide (v ≤ 255)) && inAll (l.drop t.init.length) t.procs then some (l.take t.init.length, l.drop t.init.length) else none
  | _ => none
def tturns (o : Int) : List TProp → Nat → Nat
  | [], _ => 0
  | p :: r, i => (if p.obj = o then 2 ^ i else 0) ||| tturns o r (i + 1)
def marksDiffer (x y : TNode) : Bool := (x.fin != y.fin) || (x.prog != y.prog) || (x.acc != y.acc)
def tfootT (t : PThr) (p : List TNode) (x : TNode) (a : TArc) : Nat := (if a.put then tturns a.sobj t.props 0 else 0) ||| (match p[a.dst.toNat]? with | some y => if marksDiffer x y then 2 ^ 63 else 0 | none => 0)
def footR (a : TArc) : List Int := if a.test then [a.obj] else []
def footW (a : TArc) : List Int := if a.put then [a.sobj] else []
def tdst (n : Nat) (vs ns : List Nat) (p : Nat) (a : TArc) : List Nat :=
  let l := (vs ++ ns).set (n + p) a.dst.toNat
  if a.put then l.set a.sobj.toNat a.sto.toNat else l
def bytesOf (l : List Nat) : ByteArray := ⟨(encs l).toArray⟩
def tmove (t : PThr) (vs ns : List Nat) (p : Nat) (l : List TNode) (x : TNode) (k : Nat) (a : TArc) : PMove :=
  ⟨(p : Int), (k : Int), -1, -1, if a.bad = 0 then bytesOf (tdst vs.length vs ns p a) else ⟨#[]⟩, a.bad, footR a, footW a, tfootT t l x a⟩
def tgoes (vs : List Nat) (a : TArc) : Bool := !(a.test && decide ((vs[a.obj.toNat]?.map fun (n : Nat) => (n : Int)) ≠ some a.val))
def tarcs (t : PThr) (vs ns : List Nat) (p : Nat) (l : List TNode) (x : TNode) : Nat → List TArc → List PMove
  | _, [] => []
  | k, a :: r => (if tgoes vs a then [tmove t vs ns p l x k a] else []) ++ tarcs t vs ns p l x (k + 1) r
def tprocs (t : PThr) (vs ns : List Nat) : Nat → List (List TNode) → List PMove
  | _, [] => []
  | p, l :: r => (match l[ns.getD p 0]? with | some x => tarcs t vs ns p l x 0 x.arcs | none => []) ++ tprocs t vs ns (p + 1) r
def tnext (t : PThr) (s : ByteArray) : List PMove := match tstate t s with
  | some (vs, ns) => tprocs t vs ns 0 t.procs
  | none => []
def tprops (vs : List Nat) : List TProp → Nat → Nat
  | [], _ => 0
  | p :: r, i => (if (vs[p.obj.toNat]?.map fun (n : Nat) => (n : Int)) = some p.val then 2 ^ i else 0) ||| tprops vs r (i + 1)
def tmarks : List Nat → List (List TNode) → Bool × Bool × Bool
  | k :: l, p :: r => match p[k]? with
    | some x => (x.fin && (tmarks l r).1, x.prog || (tmarks l r).2.1, x.acc || (tmarks l r).2.2)
    | none => tmarks l r
  | _, _ => (true, false, false)
def tlook (t : PThr) (s : ByteArray) : PNode := match tstate t s with
  | some (vs, ns) => ⟨[], tprops vs t.props 0, (tmarks ns t.procs).1, (tmarks ns t.procs).2.1, (tmarks ns t.procs).2.2⟩
  | none => zeroN
def tbeg (t : PThr) : ByteArray := bytesOf (t.init.map (·.toNat) ++ List.replicate t.procs.length 0)
def tsys (t : PThr) : Sys := ⟨tbeg t, tlook t, tnext t⟩
theorem info_tprop : (Try.prog.info? 56).map (fun i => (i.zero.map fun z => z.cells.size, i.size, i.bytes)) = some (some 2, 2, 16) := by kernel_rfl
theorem info_tnode : (Try.prog.info? 61).map (fun i => (i.zero.map fun z => z.cells.size, i.size, i.bytes)) = some (some 4, 4, 32) := by kernel_rfl
theorem info_tarc : (Try.prog.info? 64).map (fun i => (i.zero.map fun z => z.cells.size, i.size, i.bytes)) = some (some 8, 8, 64) := by kernel_rfl
theorem sz_TProp : (Try.prog.info? 56).map (·.size) = some 2 := by kernel_rfl
theorem sz_TNode : (Try.prog.info? 61).map (·.size) = some 4 := by kernel_rfl
theorem sz_TArc : (Try.prog.info? 64).map (·.size) = some 8 := by kernel_rfl
theorem sz_Thr : (Try.prog.info? 66).map (·.size) = some 3 := by kernel_rfl
theorem sz_Thrs : (Try.prog.info? 31).map (·.size) = some 3 := by kernel_rfl
def cloneTPropsPost (w : World) (n : Nat) (f : List Value) (e : Ending) (w' : World) : Prop := Below w.heap.size w w' ∧ ∃ v, e = .returned v ∧ (v = .slice none 0 0 ∨ w'.ownsRow w.heap.size 56 2 v n f) ∧ RowL (From w.heap.size) w' 2 v n f
set_option maxHeartbeats 1000000 in
set_option maxRecDepth 100000 in
theorem cloneTPropsFn {P : Nat → Prop} {w : World} {v : Value} {n : Nat} {f : List Value} (h : RowL P w 2 v n f) (hone : ∀ u ∈ f, u.oneCell' = true) (hn : n ≤ 2000000) : Calls Try.prog 18 #[v] w (cloneTPropsPost w n f) := by
  obtain ⟨i0, z0, hi0, hz0, hz1, hz2, hz3⟩ := info_of info_tprop
  have H := Lib.hid h
  obtain ⟨a, c, rfl, hc1, hc2, hc3⟩ := h.form
  cases a with
  | none =>
    obtain rfl := hc3 rfl
    obtain rfl : n = 0 := by omega
    have he := run_eq_nil (P := Try.prog) w 29 56 none 0 0 Try.underlying29
    clear h
    go_enter Try.func18, Try.ntmps18
    go_wp2
    go_ret
    exact ⟨Below.refl _ _, _, rfl, .inl rfl, by
      have hl : f.length = 0 := by obtain ⟨_, _, _, _, _, h4, _⟩ := H.out; simpa using h4
      rw [List.eq_nil_of_length_eq_zero hl]; exact RowL.nil _ _ _⟩
  | some ad =>
    have H1 := Lib.hid hone
    have HN := Lib.hid hn
    have HW : Hid ((w.alloc (.cells #[] 56)).ownsRow w.heap.size 56 2 (.slice (some ⟨w.heap.size, 0, none⟩) 0 0) 0 []) := by
      refine ⟨by simp, .inr ⟨w.heap.size, 0, #[], rfl, Nat.le_refl _, ?_, Nat.le_refl _, by unfold maxLen; omega, by simp, by simp⟩⟩
      exact Holds.new w 56 #[]
    have HH := Lib.hid (H.out.up (Keep.below ((Below.refl w.heap.size w).alloc (Nat.le_refl _) (.cells #[] 56))))
    have he := run_eq_nil (P := Try.prog) w 29 56 (some ad) n c Try.underlying29
    clear h hone hn hc1 hc2 hc3
    go_enter Try.func18, Try.ntmps18
    go_wp2_with (at_builtin; refine wpList_append_row rfl (.tmp 5) (.tmp 6) _ rfl w.heap.size 56 i0 z0 2 16 Try.underlying29 hi0 hz0 hz1 hz2 hz3 (by omega) (.slice (some ⟨w.heap.size, 0, none⟩) 0 0) 0 [] rfl HW.out _ n f rfl HH.out H1.out (by have := HN.out; unfold maxLen; omega) (by have := HN.out; omega) (by simp) ?_)
    intro v' w2 hown hgr hat
    have hB : Below w.heap.size w w2 := ((Below.refl w.heap.size w).alloc (Nat.le_refl _) (.cells #[] 56)).grown hgr (by simp) fun k hk => by simp [Value.ownBlock] at hk; omega
    have HF : Hid (cloneTPropsPost w n f (.returned v') w2) := by
      refine ⟨hB, v', rfl, .inr ?_, RowL.of_owns (base := w.heap.size) (e := 56) ?_ fun _ h => h⟩
      · simpa using hown
      · simpa using hown
    clear hB hown hgr hat HW HH
    go_wp2
    go_ret
    exact HF.out
def cloneTNodesPost (w : World) (n : Nat) (f : List Value) (e : Ending) (w' : World) : Prop := Below w.heap.size w w' ∧ ∃ v, e = .returned v ∧ (v = .slice none 0 0 ∨ w'.ownsRow w.heap.size 61 4 v n f) ∧ RowL (From w.heap.size) w' 4 v n f
set_option maxHeartbeats 1000000 in
set_option maxRecDepth 100000 in
theorem cloneTNodesFn {P : Nat → Prop} {w : World} {v : Value} {n : Nat} {f : List Value} (h : RowL P w 4 v n f) (hone : ∀ u ∈ f, u.oneCell' = true) (hn : n ≤ 2000000) : Calls Try.prog 19 #[v] w (cloneTNodesPost w n f) := by
  obtain ⟨i0, z0, hi0, hz0, hz1, hz2, hz3⟩ := info_of info_tnode
  have H := Lib.hid h
  obtain ⟨a, c, rfl, hc1, hc2, hc3⟩ := h.form
  cases a with
  | none =>
    obtain rfl := hc3 rfl
    obtain rfl : n = 0 := by omega
    have he := run_eq_nil (P := Try.prog) w 57 61 none 0 0 Try.underlying57
    clear h
    go_enter Try.func19, Try.ntmps19
    go_wp2
    go_ret
    exact ⟨Below.refl _ _, _, rfl, .inl rfl, by
      have hl : f.length = 0 := by obtain ⟨_, _, _, _, _, h4, _⟩ := H.out; simpa using h4
      rw [List.eq_nil_of_length_eq_zero hl]; exact RowL.nil _ _ _⟩
  | some ad =>
    have H1 := Lib.hid hone
    have HN := Lib.hid hn
    have HW : Hid ((w.alloc (.cells #[] 61)).ownsRow w.heap.size 61 4 (.slice (some ⟨w.heap.size, 0, none⟩) 0 0) 0 []) := by
      refine ⟨by simp, .inr ⟨w.heap.size, 0, #[], rfl, Nat.le_refl _, ?_, Nat.le_refl _, by unfold maxLen; omega, by simp, by simp⟩⟩
      exact Holds.new w 61 #[]
    have HH := Lib.hid (H.out.up (Keep.below ((Below.refl w.heap.size w).alloc (Nat.le_refl _) (.cells #[] 61))))
    have he := run_eq_nil (P := Try.prog) w 57 61 (some ad) n c Try.underlying57
    clear h hone hn hc1 hc2 hc3
    go_enter Try.func19, Try.ntmps19
    go_wp2_with (at_builtin; refine wpList_append_row rfl (.tmp 5) (.tmp 6) _ rfl w.heap.size 61 i0 z0 4 32 Try.underlying57 hi0 hz0 hz1 hz2 hz3 (by omega) (.slice (some ⟨w.heap.size, 0, none⟩) 0 0) 0 [] rfl HW.out _ n f rfl HH.out H1.out (by have := HN.out; unfold maxLen; omega) (by have := HN.out; omega) (by simp) ?_)
    intro v' w2 hown hgr hat
    have hB : Below w.heap.size w w2 := ((Below.refl w.heap.size w).alloc (Nat.le_refl _) (.cells #[] 61)).grown hgr (by simp) fun k hk => by simp [Value.ownBlock] at hk; omega
    have HF : Hid (cloneTNodesPost w n f (.returned v') w2) := by
      refine ⟨hB, v', rfl, .inr ?_, RowL.of_owns (base := w.heap.size) (e := 61) ?_ fun _ h => h⟩
      · simpa using hown
      · simpa using hown
    clear hB hown hgr hat HW HH
    go_wp2
    go_ret
    exact HF.out
def cloneTArcsPost (w : World) (n : Nat) (f : List Value) (e : Ending) (w' : World) : Prop := Below w.heap.size w w' ∧ ∃ v, e = .returned v ∧ (v = .slice none 0 0 ∨ w'.ownsRow w.heap.size 64 8 v n f) ∧ RowL (From w.heap.size) w' 8 v n f
set_option maxHeartbeats 1000000 in
set_option maxRecDepth 100000 in
theorem cloneTArcsFn {P : Nat → Prop} {w : World} {v : Value} {n : Nat} {f : List Value} (h : RowL P w 8 v n f) (hone : ∀ u ∈ f, u.oneCell' = true) (hn : n ≤ 2000000) : Calls Try.prog 20 #[v] w (cloneTArcsPost w n f) := by
  obtain ⟨i0, z0, hi0, hz0, hz1, hz2, hz3⟩ := info_of info_tarc
  have H := Lib.hid h
  obtain ⟨a, c, rfl, hc1, hc2, hc3⟩ := h.form
  cases a with
  | none =>
    obtain rfl := hc3 rfl
    obtain rfl : n = 0 := by omega
    have he := run_eq_nil (P := Try.prog) w 59 64 none 0 0 Try.underlying59
    clear h
    go_enter Try.func20, Try.ntmps20
    go_wp2
    go_ret
    exact ⟨Below.refl _ _, _, rfl, .inl rfl, by
      have hl : f.length = 0 := by obtain ⟨_, _, _, _, _, h4, _⟩ := H.out; simpa using h4
      rw [List.eq_nil_of_length_eq_zero hl]; exact RowL.nil _ _ _⟩
  | some ad =>
    have H1 := Lib.hid hone
    have HN := Lib.hid hn
    have HW : Hid ((w.alloc (.cells #[] 64)).ownsRow w.heap.size 64 8 (.slice (some ⟨w.heap.size, 0, none⟩) 0 0) 0 []) := by
      refine ⟨by simp, .inr ⟨w.heap.size, 0, #[], rfl, Nat.le_refl _, ?_, Nat.le_refl _, by unfold maxLen; omega, by simp, by simp⟩⟩
      exact Holds.new w 64 #[]
    have HH := Lib.hid (H.out.up (Keep.below ((Below.refl w.heap.size w).alloc (Nat.le_refl _) (.cells #[] 64))))
    have he := run_eq_nil (P := Try.prog) w 59 64 (some ad) n c Try.underlying59
    clear h hone hn hc1 hc2 hc3
    go_enter Try.func20, Try.ntmps20
    go_wp2_with (at_builtin; refine wpList_append_row rfl (.tmp 5) (.tmp 6) _ rfl w.heap.size 64 i0 z0 8 64 Try.underlying59 hi0 hz0 hz1 hz2 hz3 (by omega) (.slice (some ⟨w.heap.size, 0, none⟩) 0 0) 0 [] rfl HW.out _ n f rfl HH.out H1.out (by have := HN.out; unfold maxLen; omega) (by have := HN.out; omega) (by simp) ?_)
    intro v' w2 hown hgr hat
    have hB : Below w.heap.size w w2 := ((Below.refl w.heap.size w).alloc (Nat.le_refl _) (.cells #[] 64)).grown hgr (by simp) fun k hk => by simp [Value.ownBlock] at hk; omega
    have HF : Hid (cloneTArcsPost w n f (.returned v') w2) := by
      refine ⟨hB, v', rfl, .inr ?_, RowL.of_owns (base := w.heap.size) (e := 64) ?_ fun _ h => h⟩
      · simpa using hown
      · simpa using hown
    clear hB hown hgr hat HW HH
    go_wp2
    go_ret
    exact HF.out
end Go.Proofs.Ytcopoaaofjeklaa.G
