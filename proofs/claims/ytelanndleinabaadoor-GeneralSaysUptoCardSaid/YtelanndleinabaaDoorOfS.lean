/- What Of's memory looks like. -/
import Derived.Test.YtelanndleinabaaDoorWays
import Derived.Test.YtelanndleinabaaDoorOfP
import Derived.Test.YtelanndleinabaaDoorOf1
namespace Go.Proofs.YtelanndleinabaaDoor
open Go.RowKit
set_option linter.unusedVariables false

theorem Tryd.info48 : (Tryd.prog.info? 48).map (fun i => (i.zero, i.size, i.bytes)) = some (some (.slice none 0 0), 1, 24) := by kernel_rfl
section
variable {β M nb mv : Nat} {w w' : World} {va vs vf vr : Value} {rows : List (List Int)} {rvs : List Value}
/-- A row of rows of moves that the call made. -/
def OwnG (B : Nat) (w : World) (v : Value) (ms : List (List Mv)) : Prop := ∃ us : List Value, w.ownsRow B 48 1 v ms.length us ∧ ∀ (i : Nat) (h : i < ms.length), ∃ u, us[i]? = some u ∧ w.ownsRow B 53 4 u ms[i].length (mvs ms[i]) ∧ ∀ m ∈ ms[i], m.wf
theorem OwnG.nil (B : Nat) (w : World) : OwnG B w (.slice none 0 0) [] := ⟨[], World.ownsRow_nil w B 48 1, fun i hi => by simp at hi⟩
theorem OwnG.below {B : Nat} {v : Value} {ms : List (List Mv)} (h : OwnG B w v ms) (hb : Below w.heap.size w w') : OwnG B w' v ms := by
  obtain ⟨us, h1, h2⟩ := h
  have hF := Fr.of_below hb (fun _ => False)
  exact ⟨us, hF.owns h1 (fun _ _ h => h), fun i hi => let ⟨u, a, b, c⟩ := h2 i hi; ⟨u, a, hF.owns b (fun _ _ h => h), c⟩⟩
theorem OwnG.kq {B : Nat} {v : Value} {ms : List (List Mv)} (h : OwnG B w v ms) (hk : Kq w w') : OwnG B w' v ms := by
  obtain ⟨us, h1, h2⟩ := h
  exact ⟨us, hk.owns h1 (by decide) (by decide), fun i hi => let ⟨u, a, b, c⟩ := h2 i hi; ⟨u, a, hk.owns b (by decide) (by decide), c⟩⟩
theorem OwnG.put {B g i : Nat} {t : TypeId} {cs : List Value} {v u : Value} {ms : List (List Mv)} (h : OwnG B w v ms) (hH : Holds w g t cs) (h1 : 48 ≠ t) (h2 : 53 ≠ t) : OwnG B (w.setCell ⟨g, i, none⟩ u) v ms := by
  obtain ⟨us, k1, k2⟩ := h
  exact ⟨us, own_put k1 hH h1, fun i hi => let ⟨u, a, b, c⟩ := k2 i hi; ⟨u, a, own_put b hH h2, c⟩⟩
theorem OwnG.form {B : Nat} {v : Value} {ms : List (List Mv)} (h : OwnG B w v ms) : ∃ a cap, v = .slice a ms.length cap ∧ ms.length ≤ cap ∧ cap ≤ maxLen := by
  obtain ⟨us, h1, _⟩ := h
  exact owns_form h1
theorem OwnG.push {B : Nat} {v v' u : Value} {ms : List (List Mv)} {us : List Value} {m : List Mv} (h1 : w.ownsRow B 48 1 v ms.length us) (h2 : ∀ (i : Nat) (h : i < ms.length), ∃ u, us[i]? = some u ∧ w.ownsRow B 53 4 u ms[i].length (mvs ms[i]) ∧ ∀ m ∈ ms[i], m.wf)
    (hu : w.ownsRow B 53 4 u m.length (mvs m)) (hm : ∀ x ∈ m, x.wf) (hg : w.grownBy w' v.ownBlock) (hr : w'.ownsRow B 48 1 v' (ms.length + 1) (us ++ [u])) : OwnG B w' v' (ms ++ [m]) := by
  have hl : us.length = ms.length := by have := h1.1; omega
  refine ⟨us ++ [u], by rw [List.length_append, List.length_singleton]; exact hr, fun i hi => ?_⟩
  rw [List.length_append, List.length_singleton] at hi
  by_cases hin : i < ms.length
  · obtain ⟨x, a, b, c⟩ := h2 i hin
    refine ⟨x, by rw [List.getElem?_append_left (by omega)]; exact a, ?_⟩
    rw [List.getElem_append_left hin]
    exact ⟨b.kept hg (own_pair b h1 (by decide)), c⟩
  · have hie : i = ms.length := by omega
    subst hie
    refine ⟨u, by rw [List.getElem?_append_right (by omega), hl]; simp, ?_⟩
    rw [List.getElem_append_right (by omega)]
    simp only [Nat.sub_self, List.getElem_cons_zero]
    exact ⟨hu.kept hg (own_pair hu h1 (by decide)), hm⟩
theorem OwnG.read {B : Nat} {v : Value} {ms : List (List Mv)} (h : OwnG B w v ms) : RowMM w.heap.size w v ms := by
  obtain ⟨us, h1, h2⟩ := h
  exact ⟨us, Row.of_owns h1, fun i hi => let ⟨u, a, b, c⟩ := h2 i hi; ⟨u, a, Row.of_owns b, c⟩⟩

/-! The maker. -/
theorem MkM.start (w : World) {β : Nat} (hβ : β ≤ w.heap.size) (va vs : Value) : MkM β (w.heap.size + 1) w.heap.size ((w.alloc (.map #[] 0)).alloc (.cells #[va, vs, .slice none 0 0, .map (some w.heap.size), .slice none 0 0, .int .i64 0] 84)) va vs (.slice none 0 0) (.slice none 0 0) [] [] 0 := by
  have hs : (w.alloc (.map #[] 0)).heap.size = w.heap.size + 1 := by simp
  have hN := SMap.new w
  refine ⟨?_, ⟨by omega, hβ⟩, hN.of_eq (Below.heap_alloc _ _ _ (by rw [hs]; omega)), World.ownsRow_nil _ _ 22 1, fun i hi => by simp at hi⟩
  have := Holds.new (w.alloc (.map #[] 0)) 84 #[va, vs, .slice none 0 0, .map (some w.heap.size), .slice none 0 0, .int .i64 0]
  rw [hs] at this
  exact this
/-- The finals grow. -/
theorem MkM.fin {n : Nat} {xs : List Value} {vf' : Value} (h : MkM β M nb w va vs vf (.slice none 0 0) [] [] mv) (ho : w.ownsRow β 3 1 vf n xs) (hg : w.grownBy w' vf.ownBlock) : MkM β M nb (w'.setCell ⟨M, 2, none⟩ vf') va vs vf' (.slice none 0 0) [] [] mv := by
  have ht := h.t.of_eq (hg.block _ h.t.lt (fun e => owns_ne_holds ho h.t (by decide) e.symm))
  have hn := h.num.of_eq (hg.block _ h.num.lt (fun e => ownBlock_ne_map ho h.num.obj e.symm))
  exact ⟨ht.put 2 vf', h.bt, hn.of_eq (Below.heap_setCell _ _ _ _ (ht.ne_map hn.obj).symm), World.ownsRow_nil _ _ 22 1, fun i hi => by simp at hi⟩
/-- A store elsewhere. -/
theorem MkM.far {g i : Nat} {t : TypeId} {cs : List Value} {u : Value} (h : MkM β M nb w va vs vf vr rows rvs mv) (hH : Holds w g t cs) (h1 : 84 ≠ t) (h2 : 22 ≠ t) (h3 : 3 ≠ t) (hg : β ≤ g) : MkM β M nb (w.setCell ⟨g, i, none⟩ u) va vs vf vr rows rvs mv := by
  refine ⟨h.t.far (h.t.ne_of_type hH h1) u, h.bt, h.num.of_eq (Below.heap_setCell _ _ _ _ (hH.ne_map h.num.obj).symm), own_put h.row hH h2, fun j hj => ?_⟩
  obtain ⟨x, hx, ha⟩ := h.each j hj
  refine ⟨x, hx, ?_⟩
  rcases ha with ha | ⟨k1, k2⟩
  · exact .inl (ha.below ((Below.refl _ _).setCell hg _))
  · exact .inr ⟨own_put k1 hH h3, k2⟩
/-- The number of moves turns. -/
theorem MkM.moves (h : MkM β M nb w va vs vf vr rows rvs mv) (n : Nat) : MkM β M nb (w.setCell ⟨M, 5, none⟩ (.int .i64 (n : Int))) va vs vf vr rows rvs n := by
  refine ⟨h.t.put 5 _, h.bt, h.num.of_eq (Below.heap_setCell _ _ _ _ (h.t.ne_map h.num.obj).symm), own_put h.row h.t (by decide), fun j hj => ?_⟩
  obtain ⟨x, hx, ha⟩ := h.each j hj
  refine ⟨x, hx, ?_⟩
  rcases ha with ha | ⟨k1, k2⟩
  · exact .inl (ha.below ((Below.refl _ _).setCell h.bt.1 _))
  · exact .inr ⟨own_put k1 h.t (by decide), k2⟩
/-- A row of another type grows. -/
theorem MkM.grownE {base size n : Nat} {e : TypeId} {u : Value} {ys : List Value} (h : MkM β M nb w va vs vf vr rows rvs mv) (ho : w.ownsRow base e size u n ys) (h1 : e ≠ 84) (h2 : 22 ≠ e) (h3 : 3 ≠ e) (hb : β ≤ base)
    (hg : w.grownBy w' u.ownBlock) : MkM β M nb w' va vs vf vr rows rvs mv := by
  have hβ : β ≤ w.heap.size := Nat.le_trans h.bt.1 (Nat.le_of_lt h.t.lt)
  have hB : Below β w w' := (Below.refl _ _).grown hg hβ (fun k e => Nat.le_trans hb (ho.lt k e).1)
  refine ⟨h.t.of_eq (hg.block _ h.t.lt (fun e => owns_ne_holds ho h.t h1 e.symm)), h.bt, h.num.of_eq (hg.block _ h.num.lt (fun e => ownBlock_ne_map ho h.num.obj e.symm)), h.row.kept hg (own_pair h.row ho h2), fun i hi => ?_⟩
  obtain ⟨x, hx, ha⟩ := h.each i hi
  refine ⟨x, hx, ?_⟩
  rcases ha with ha | ⟨k1, k2⟩
  · exact .inl (ha.below hB)
  · exact .inr ⟨k1.kept hg (own_pair k1 ho h3), k2⟩
/-- Where all its rows are read alone, a row of ints may grow. -/
theorem MkM.grownI {n : Nat} {u : Value} {ys : List Value} (h : MkM β M nb w va vs vf vr rows rvs mv) (hr : ∀ (i : Nat) (h : i < rows.length), ∃ u, rvs[i]? = some u ∧ RowI β w u rows[i]) (ho : w.ownsRow β 3 1 u n ys)
    (hg : w.grownBy w' u.ownBlock) : MkM β M nb w' va vs vf vr rows rvs mv := by
  have hβ : β ≤ w.heap.size := Nat.le_trans h.bt.1 (Nat.le_of_lt h.t.lt)
  have hB : Below β w w' := (Below.refl _ _).grown hg hβ (fun k e => (ho.lt k e).1)
  refine ⟨h.t.of_eq (hg.block _ h.t.lt (fun e => owns_ne_holds ho h.t (by decide) e.symm)), h.bt, h.num.of_eq (hg.block _ h.num.lt (fun e => ownBlock_ne_map ho h.num.obj e.symm)), h.row.kept hg (own_pair h.row ho (by decide)), fun i hi => ?_⟩
  obtain ⟨x, hx, ha⟩ := hr i hi
  exact ⟨x, hx, .inl (ha.below hB)⟩
end

theorem rows_read {β : Nat} {w : World} {rows rows2 : List (List Int)} {rvs rvs2 : List Value} {u : Value} {l : List Int} {n : Nat} (hs : stateRes rows l = some (n, rows2)) (h1 : rvs.length = rows.length) (h2 : rvs2.length = rows2.length) (hor : rvs2 = rvs ∨ rvs2 = rvs ++ [u])
    (h : ∀ (i : Nat) (h : i < rows.length), ∃ u, rvs[i]? = some u ∧ RowI β w u rows[i]) (hu : RowI β w u l) : ∀ (i : Nat) (h : i < rows2.length), ∃ x, rvs2[i]? = some x ∧ RowI β w x rows2[i] := by
  have hsame : rows2 = rows ∨ rows2 = rows ++ [l] := by
    unfold stateRes at hs
    split at hs
    · injection hs with hs; injection hs with _ hs; exact .inl hs.symm
    · split at hs
      · injection hs with hs; injection hs with _ hs; exact .inr hs.symm
      · cases hs
  rcases hor with rfl | rfl
  · rcases hsame with rfl | rfl
    · exact h
    · rw [List.length_append, List.length_singleton] at h2; omega
  · rcases hsame with rfl | rfl
    · rw [List.length_append, List.length_singleton] at h2; omega
    · intro i hi
      rw [List.length_append, List.length_singleton] at hi
      by_cases hin : i < rows.length
      · obtain ⟨x, a, b⟩ := h i hin
        exact ⟨x, by rw [List.getElem?_append_left (by omega)]; exact a, by rw [List.getElem_append_left hin]; exact b⟩
      · have : i = rows.length := by omega
        subst this
        refine ⟨u, by rw [List.getElem?_append_right (by omega), h1]; simp, ?_⟩
        rw [List.getElem_append_right (by omega)]
        simpa using hu
theorem MkM.lens {β M nb mv : Nat} {w : World} {va vs vf vr : Value} {rows : List (List Int)} {rvs : List Value} (h : MkM β M nb w va vs vf vr rows rvs mv) : rvs.length = rows.length ∧ rows.length ≤ 4096 := ⟨by have := h.row.1; omega, h.num.2.1⟩

/-! Behind the door. -/
def OfPost (w : World) (a : Alt) (e : Ending) (w' : World) : Prop := ∃ v, e = .returned (.tuple #[v, .int .i64 ((ofOut a).1 : Int)]) ∧ GenAt w'.heap.size w' v (ofOut a).2 ∧ Below w.heap.size w w'
theorem genAt_nil (w : World) : GenAt w.heap.size w (.agg #[.int .i64 0, .slice none 0 0, .slice none 0 0]) nilG :=
  ⟨_, _, rfl, by simp [nilG], ⟨Row.nil _ _ _, by simp [nilG]⟩, ⟨[], Row.nil _ _ _, by simp [nilG]⟩⟩
theorem of_results {tmps : Array Value} {W : World} {bg be : Nat} {x0 x1 x2 y0 : Value} (h2 : tmps[2]?.getD undef = .pointer (some ⟨bg, 0, none⟩)) (h3 : tmps[3]?.getD undef = .pointer (some ⟨be, 0, none⟩))
    (hG : Holds W bg 25 [x0, x1, x2]) (hE : Holds W be 29 [y0]) : (results Tryd.f16 tmps).run Tryd.prog W = .ok (.tuple #[.agg #[x0, x1, x2], y0]) W := by
  have c0 := hG.cell 0
  have c1 := hG.cell 1
  have c2 := hG.cell 2
  have d0 := hE.cell 0
  simp only [List.getElem?_cons_zero, List.getElem?_cons_succ] at c0 c1 c2 d0
  simp [results, Tryd.results16, go_sem, h2, h3, c0, c1, c2, d0]
set_option maxRecDepth 100000 in
/-- Where the body has thrown many. -/
theorem of_dies {tmps : Array Value} {w W : World} {a : Alt} {bg be : Nat} {cg ce : List Value} (h2 : tmps[2]?.getD undef = .pointer (some ⟨bg, 0, none⟩)) (h3 : tmps[3]?.getD undef = .pointer (some ⟨be, 0, none⟩))
    (hg : Holds W bg 25 [cg.getD 0 (.bool false), cg.getD 1 (.bool false), cg.getD 2 (.bool false)]) (he : Holds W be 29 [ce.getD 0 (.bool false)]) (hbg : w.heap.size ≤ bg) (hbe : w.heap.size ≤ be) (hB : Below w.heap.size w W)
    (ha : altOk a = true) (hr : ofRes a = none) :
    Leaves Tryd.prog Tryd.f16 tmps (fun e w' => OfPost w a e w') [{ target := .fn (.func 30) #[.pointer (some ⟨bg, 0, none⟩), .pointer (some ⟨be, 0, none⟩)], args := #[] }] (.panicking manyChain) W := by
  refine leaves_cons (f := 30) (args := #[.pointer (some ⟨bg, 0, none⟩), .pointer (some ⟨be, 0, none⟩)]) (by simp) (by simp [go_sem]) ?_
  refine (of1_panicking bg be cg ce W hg he).mono ?_
  rintro e u' w'' ⟨rfl, rfl, hG, hE, hb⟩
  have c0 := hG.cell 0
  have c1 := hG.cell 1
  have c2 := hG.cell 2
  have d0 := hE.cell 0
  simp only [List.getElem?_cons_zero, List.getElem?_cons_succ] at c0 c1 c2 d0
  have ho : ofOut a = (131, nilG) := by unfold ofOut; rw [if_pos ha, hr]
  have hend : OfPost w a (.returned (.tuple #[.agg #[.int .i64 0, .slice none 0 0, .slice none 0 0], .int .i64 131])) w'' := ⟨_, by rw [ho]; rfl, by rw [ho]; exact genAt_nil w'', hB.trans (hb _ hbg hbe)⟩
  simp only [settle, List.dropWhile, Leaves]
  refine ⟨_, ?_, hend⟩
  simp [results, Tryd.results16, go_sem, h2, h3, c0, c1, c2, d0]
/-- The end: the result lies as it lay. -/
theorem of_finish {w W : World} {bg be il : Nat} {x0 iv vst : Value} {init : List Int} {acc : List (List Mv)} (hne : bg ≠ be) (hbg : w.heap.size ≤ bg) (hbe : w.heap.size ≤ be) (hG : Holds W bg 25 [x0, iv, vst]) (hE : Holds W be 29 [.int .i64 0])
    (hI : W.ownsRow w.heap.size 3 1 iv il (ints init)) (hS : OwnG w.heap.size W vst acc) (hB : Below w.heap.size w W) :
    Holds ((((W.setCell ⟨bg, 0, none⟩ x0).setCell ⟨bg, 1, none⟩ iv).setCell ⟨bg, 2, none⟩ vst).setCell ⟨be, 0, none⟩ (.int .i64 0)) bg 25 [x0, iv, vst] ∧
    Holds ((((W.setCell ⟨bg, 0, none⟩ x0).setCell ⟨bg, 1, none⟩ iv).setCell ⟨bg, 2, none⟩ vst).setCell ⟨be, 0, none⟩ (.int .i64 0)) be 29 [.int .i64 0] ∧
    ((((W.setCell ⟨bg, 0, none⟩ x0).setCell ⟨bg, 1, none⟩ iv).setCell ⟨bg, 2, none⟩ vst).setCell ⟨be, 0, none⟩ (.int .i64 0)).ownsRow w.heap.size 3 1 iv il (ints init) ∧
    OwnG w.heap.size ((((W.setCell ⟨bg, 0, none⟩ x0).setCell ⟨bg, 1, none⟩ iv).setCell ⟨bg, 2, none⟩ vst).setCell ⟨be, 0, none⟩ (.int .i64 0)) vst acc ∧
    Below w.heap.size w ((((W.setCell ⟨bg, 0, none⟩ x0).setCell ⟨bg, 1, none⟩ iv).setCell ⟨bg, 2, none⟩ vst).setCell ⟨be, 0, none⟩ (.int .i64 0)) := by
  have g1 := hG.put 0 x0
  have g2 := g1.put 1 iv
  have g3 := g2.put 2 vst
  have e3 := ((hE.far (p := ⟨bg, 0, none⟩) hne.symm x0).far (p := ⟨bg, 1, none⟩) hne.symm iv).far (p := ⟨bg, 2, none⟩) hne.symm vst
  exact ⟨g3.far (p := ⟨be, 0, none⟩) hne _, e3.put 0 _, own_put (own_put (own_put (own_put hI hG (by decide)) g1 (by decide)) g2 (by decide)) e3 (by decide),
    (((hS.put hG (by decide) (by decide)).put g1 (by decide) (by decide)).put g2 (by decide) (by decide)).put e3 (by decide) (by decide), (((hB.setCell (p := ⟨bg, 0, none⟩) hbg _).setCell (p := ⟨bg, 1, none⟩) hbg _).setCell (p := ⟨bg, 2, none⟩) hbg _).setCell (p := ⟨be, 0, none⟩) hbe _⟩
end Go.Proofs.YtelanndleinabaaDoor
