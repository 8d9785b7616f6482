/- A round's range over the moves: what lies in memory, and what each step of a move turns. -/
import Derived.Test.YtpednhcfkjjcpaaMg4
import Derived.Test.YtpednhcfkjjcpaaIter
namespace Go.Proofs.Ytpednhcfkjjcpaa
open Go.RowKit Go.Maps
set_option linter.unusedVariables false
set_option linter.unusedSimpArgs false

theorem stepAs_snoc (most : Nat) : ∀ (l : List PArc) (a : PArc) (st : List Nat), stepAs most st (l ++ [a]) = (match stepAs most st l with
    | none => none
    | some (st1, bs) => match stepA most st1 a with
      | none => none
      | some (st2, b) => some (st2, bs ++ [b]))
  | [], a, st => by
    simp only [List.nil_append, stepAs]
    cases stepA most st a with
    | none => rfl
    | some p => rfl
  | c :: l, a, st => by
    simp only [List.cons_append, stepAs]
    cases stepA most st c with
    | none => rfl
    | some p =>
      simp only
      rw [stepAs_snoc most l a p.1]
      cases stepAs most p.1 l with
      | none => rfl
      | some q =>
        simp only
        cases stepA most q.1 a with
        | none => rfl
        | some r => rfl
theorem stepAs_app_none (most : Nat) : ∀ (l m : List PArc) (st : List Nat), stepAs most st l = none → stepAs most st (l ++ m) = none
  | [], m, st, h => by rw [stepAs] at h; cases h
  | c :: l, m, st, h => by
    rw [stepAs] at h
    rw [List.cons_append, stepAs]
    split at h
    · rename_i e; rfl
    · rename_i st1 b e
      split at h
      · rename_i e2; rw [stepAs_app_none most l m st1 e2]
      · cases h
theorem stepA_met {n most : Nat} {st st1 : List Nat} {a b : PArc} (h : Met n st) (ha : 0 ≤ a.to ∧ a.to < (n : Int)) (hs : stepA most st a = some (st1, b)) : Met n st1 ∧ st <+: st1 := by
  unfold stepA at hs
  split at hs
  · split at hs
    · injection hs with hs; injection hs with hs _; subst hs; exact ⟨h, List.prefix_refl _⟩
    · rename_i hin
      split at hs
      · cases hs
      · injection hs with hs; injection hs with hs _; subst hs
        refine ⟨⟨?_, ?_, by simp⟩, List.prefix_append _ _⟩
        · rw [List.nodup_append]
          refine ⟨h.nodup, by simp, fun x hx y hy e => ?_⟩
          rw [List.mem_singleton] at hy
          exact hin (by rw [← hy, ← e]; exact hx)
        · intro x hx
          rcases List.mem_append.1 hx with hx | hx
          · exact h.lt x hx
          · rw [List.mem_singleton] at hx; omega
  · injection hs with hs; injection hs with hs _; subst hs; exact ⟨h, List.prefix_refl _⟩
theorem stepAs_met {n most : Nat} : ∀ {l : List PArc} {st st1 : List Nat} {bs : List PArc}, Met n st → (∀ a ∈ l, 0 ≤ a.to ∧ a.to < (n : Int)) → stepAs most st l = some (st1, bs) → Met n st1 ∧ st <+: st1 ∧ bs.length = l.length
  | [], st, st1, bs, h, ha, hs => by
    rw [stepAs] at hs; injection hs with hs; injection hs with hs hs'; subst hs; subst hs'; exact ⟨h, List.prefix_refl _, rfl⟩
  | a :: l, st, st1, bs, h, ha, hs => by
    rw [stepAs] at hs
    split at hs
    · cases hs
    · rename_i st' b e1
      split at hs
      · cases hs
      · rename_i st2 bs2 e2
        injection hs with hs; injection hs with hs hs'; subst hs; subst hs'
        obtain ⟨h1, h2⟩ := stepA_met h (ha a (by simp)) e1
        obtain ⟨h3, h4, h5⟩ := stepAs_met h1 (fun x hx => ha x (by simp [hx])) e2
        exact ⟨h3, h2.trans h4, by simp [h5]⟩

/-- What a stretch of the body leaves as it was: what is no cells from lo on, and the marks. -/
structure Turns (lo : Nat) (W W' : World) : Prop where
  keeps : KeepsFrom lo W W'
  marks : ∀ D : Nat, W.heap[D]? = some (Obj.deferred (some [])) → W'.heap[D]? = some (Obj.deferred (some []))
theorem Turns.refl (lo : Nat) (W : World) : Turns lo W W := ⟨KeepsFrom.refl _ _, fun _ h => h⟩
theorem Turns.trans {lo : Nat} {A B C : World} (h : Turns lo A B) (k : Turns lo B C) : Turns lo A C := ⟨h.keeps.trans k.keeps, fun D hD => k.marks D (h.marks D hD)⟩
theorem Turns.of {F : Nat → Prop} {lo : Nat} {W W' : World} (hf : Fr F W W') (hF : ∀ k, F k → (∃ t cs, Holds W k t cs) ∨ (k < lo ∧ ∃ n st, NumV W k n st)) : Turns lo W W' := by
  refine ⟨⟨hf.size, fun k o hB hk ho => ?_⟩, fun D hD => ?_⟩
  · refine (hf.block k (Array.getElem?_eq_some_iff.1 hk).1 fun hFk => ?_).trans hk
    rcases hF k hFk with ⟨t, cs, h⟩ | ⟨h, _⟩
    · unfold Holds at h
      rw [h] at hk
      cases hk
      cases ho
    · omega
  · refine (hf.block D (Array.getElem?_eq_some_iff.1 hD).1 fun hFk => ?_).trans hD
    rcases hF D hFk with ⟨t, cs, h⟩ | ⟨_, n, st, D', ⟨es, clock, hb, _⟩, _⟩
    · unfold Holds at h
      rw [h] at hD
      cases hD
    · rw [hb] at hD
      cases hD
theorem Turns.below {lo : Nat} {W W' : World} (h : Below W.heap.size W W') : Turns lo W W' := Turns.of (Fr.of_below h (fun _ => False)) fun _ h => h.elim
theorem owns_holds {w : World} {base sz n : Nat} {e : TypeId} {v : Value} {xs : List Value} {g : Nat} (h : w.ownsRow base e sz v n xs) (hg : v.ownBlock = some g) : ∃ cs, Holds w g e cs := by
  rcases h.2 with ⟨h0, _⟩ | ⟨g', cap, cur, hv, _, hh, _⟩
  · rw [h0] at hg; simp [Value.ownBlock] at hg
  · rw [hv] at hg
    simp only [Value.ownBlock, Option.some.injEq] at hg
    subst hg
    exact ⟨cur.toList, by unfold Holds; simpa using hh⟩

theorem ExV.fr {F : Nat → Prop} {base : Nat} {P : Nat → Prop} {B : ExB} {w0 W W' : World} {most : Nat} {st : List Nat} {out : PNet} {cnt : Nat} {vs vo : Value} (h : ExV base P B w0 W most st out cnt vs vo) (hf : Fr F W W')
    (hF : ∀ k, F k → base ≤ k ∧ k ≠ B.b3 ∧ k ≠ B.b4 ∧ k ≠ B.b5 ∧ k ≠ B.b6 ∧ k ≠ B.b7 ∧ k ≠ B.b8 ∧ k ≠ B.b9 ∧ k ≠ B.b10 ∧ k ≠ B.m ∧ vs.ownBlock ≠ some k ∧ vo.ownBlock ≠ some k ∧ ¬ P k) : ExV base P B w0 W' most st out cnt vs vo := by
  obtain ⟨fo, h1, h2⟩ := h.nodes
  have hsz : base ≤ W.heap.size := by have := h.states.lt; have := h.ge; omega
  refine ⟨h.ne, h.ge, h.below.trans (hf.to_below hsz fun k hk hFk => by have := (hF k hFk).1; omega), hf.holds h.most_ fun e => (hF _ e).2.1 rfl, hf.holds h.r4 fun e => (hF _ e).2.2.1 rfl, hf.holds h.r5 fun e => (hF _ e).2.2.2.1 rfl, hf.holds h.r6 fun e => (hF _ e).2.2.2.2.1 rfl, hf.holds h.states fun e => (hF _ e).2.2.2.2.2.1 rfl,
    hf.owns h.row fun g hg e => (hF g e).2.2.2.2.2.2.2.2.2.2.1 hg, hf.holds h.maps fun e => (hF _ e).2.2.2.2.2.2.1 rfl, h.num.of_eq (hf.block _ h.num.lt fun e => (hF _ e).2.2.2.2.2.2.2.2.2.1 rfl), hf.holds h.outs fun e => (hF _ e).2.2.2.2.2.2.2.1 rfl,
    ⟨fo, hf.owns h1 fun g hg e => (hF g e).2.2.2.2.2.2.2.2.2.2.2.1 hg, ?_⟩, h.far, hf.holds h.cnt_ fun e => (hF _ e).2.2.2.2.2.2.2.2.1 rfl⟩
  exact LsF.up (fun _ _ => oneNode.up fun k hk hs => hf.block k hs fun e => (hF k e).2.2.2.2.2.2.2.2.2.2.2.2 hk) _ h2

theorem LsF.arc1 {A : Type} {F : (Nat → Prop) → World → A → List Value → Prop} {P : Nat → Prop} {w : World} {a : A} {c : List Value} (h : LsF F P w [a] c) : F P w a c := by
  obtain ⟨c', r, h1, h2, h3⟩ := h
  obtain rfl := h3
  rw [List.append_nil] at h1
  rw [h1]; exact h2
/-- Where the arcs of the round's node lie. -/
def PA (lo X : Nat) (vs va : Value) (k : Nat) : Prop := lo ≤ k ∧ k ≠ X ∧ vs.ownBlock ≠ some k ∧ va.ownBlock ≠ some k
def nodeC (va : Value) (x : PNode) : List Value := [va, .int .u64 (x.props : Int), .bool x.fin, .bool x.prog, .bool x.acc]
structure RndV (base lo b13 X : Nat) (P : Nat → Prop) (B : ExB) (w0 : World) (most : Nat) (st : List Nat) (out : PNet) (cnt : Nat) (x : PNode) (bs : List PArc) (vs vo va : Value) (ls : List PArc) (cl : List Value) (W : World) : Prop where
  ex : ExV base P B w0 W most st out cnt vs vo
  node : Holds W b13 81 (nodeC va x)
  row : ∃ fa, W.ownsRow lo 86 6 va bs.length fa ∧ LsF ArcF (PA lo X vs va) W bs fa
  loose : LsF ArcF (PA lo X vs va) W ls cl
  far : ∀ k, P k → k < b13
  hvo : ∀ g, vo.ownBlock = some g → g < b13
  lts : B.b3 < b13 ∧ B.b4 < b13 ∧ B.b5 < b13 ∧ B.b6 < b13 ∧ B.b7 < b13 ∧ B.b8 < b13 ∧ B.b9 < b13 ∧ B.b10 < b13 ∧ B.m < b13
  ge : base ≤ b13 ∧ b13 < lo ∧ lo ≤ W.heap.size
section
variable {base lo b13 X : Nat} {P : Nat → Prop} {B : ExB} {w0 W W' : World} {most : Nat} {st : List Nat} {out : PNet} {cnt : Nat} {x : PNode} {bs : List PArc} {vs vo va : Value} {ls : List PArc} {cl : List Value}
theorem RndV.vs13 (h : RndV base lo b13 X P B w0 most st out cnt x bs vs vo va ls cl W) : vs.ownBlock ≠ some b13 := owns_ne_holds h.ex.row h.node (by decide)
/-- Where nothing but blocks from b13 on, outside the states' row and the arcs' row, is turned. -/
theorem RndV.exfr (h : RndV base lo b13 X P B w0 most st out cnt x bs vs vo va ls cl W) {F : Nat → Prop} (hf : Fr F W W') (hF : ∀ k, F k → b13 ≤ k ∧ vs.ownBlock ≠ some k) : ExV base P B w0 W' most st out cnt vs vo := by
  obtain ⟨l3, l4, l5, l6, l7, l8, l9, l10, lm⟩ := h.lts
  have hg := h.ge
  refine h.ex.fr hf fun k hk => ?_
  obtain ⟨h1, h2⟩ := hF k hk
  exact ⟨by omega, by omega, by omega, by omega, by omega, by omega, by omega, by omega, by omega, by omega, h2, fun e => by have := h.hvo k e; omega, fun e => by have := h.far k e; omega⟩
theorem RndV.fresh (h : RndV base lo b13 X P B w0 most st out cnt x bs vs vo va ls cl W) (hb : Below W.heap.size W W') : RndV base lo b13 X P B w0 most st out cnt x bs vs vo va ls cl W' := by
  obtain ⟨fa, h1, h2⟩ := h.row
  exact ⟨h.exfr (Fr.of_below hb (fun _ => False)) fun k hk => hk.elim, h.node.belowAll hb, ⟨fa, owns_below h1 hb, LsF.up (fun _ _ => oneArc.up (Keep.below hb)) _ h2⟩, LsF.up (fun _ _ => oneArc.up (Keep.below hb)) _ h.loose, h.far, h.hvo, h.lts, h.ge.1, h.ge.2.1, Nat.le_trans h.ge.2.2 hb.size⟩
/-- A block that is laid now may be turned. -/
theorem RndV.arm (h : RndV base lo b13 X P B w0 most st out cnt x bs vs vo va ls cl W) {Y : Nat} (hY : W.heap.size ≤ Y) : RndV base lo b13 Y P B w0 most st out cnt x bs vs vo va ls cl W := by
  obtain ⟨fa, h1, h2⟩ := h.row
  exact ⟨h.ex, h.node, ⟨fa, h1, LsF.mono (fun _ _ => ArcF.mono fun k hk hs => ⟨hk.1, by omega, hk.2.2⟩) _ h2⟩, LsF.mono (fun _ _ => ArcF.mono fun k hk hs => ⟨hk.1, by omega, hk.2.2⟩) _ h.loose, h.far, h.hvo, h.lts, h.ge⟩
theorem RndV.disarm (h : RndV base lo b13 X P B w0 most st out cnt x bs vs vo va ls cl W) : RndV base lo b13 0 P B w0 most st out cnt x bs vs vo va ls cl W := by
  obtain ⟨fa, h1, h2⟩ := h.row
  have hg := h.ge
  exact ⟨h.ex, h.node, ⟨fa, h1, LsF.mono (fun _ _ => ArcF.mono fun k hk hs => ⟨hk.1, by have := hk.1; omega, hk.2.2⟩) _ h2⟩, LsF.mono (fun _ _ => ArcF.mono fun k hk hs => ⟨hk.1, by have := hk.1; omega, hk.2.2⟩) _ h.loose, h.far, h.hvo, h.lts, h.ge⟩
/-- The armed block is turned. -/
theorem RndV.dest (h : RndV base lo b13 X P B w0 most st out cnt x bs vs vo va ls cl W) (hX : lo ≤ X) {t : TypeId} {cs : List Value} (hx : Holds W X t cs) (ht : t ≠ 9) (ht2 : t ≠ 86 ∨ va.ownBlock ≠ some X) (hf : Fr (fun q => q = X) W W') : RndV base lo b13 X P B w0 most st out cnt x bs vs vo va ls cl W' ∧ Turns lo W W' := by
  obtain ⟨fa, h1, h2⟩ := h.row
  have hg := h.ge
  have hva : va.ownBlock ≠ some X := ht2.elim (fun hn => owns_ne_holds h1 hx (Ne.symm hn)) id
  refine ⟨⟨h.exfr hf fun k hk => ⟨by omega, by rw [hk]; exact owns_ne_holds h.ex.row hx (Ne.symm ht)⟩, hf.holds h.node (by omega), ⟨fa, hf.owns h1 fun g hg e => hva (by rw [← e]; exact hg), LsF.up (fun _ _ => oneArc.up fun k hk hs => hf.block k hs hk.2.1) _ h2⟩, LsF.up (fun _ _ => oneArc.up fun k hk hs => hf.block k hs hk.2.1) _ h.loose, h.far, h.hvo, h.lts, h.ge.1, h.ge.2.1, Nat.le_trans h.ge.2.2 hf.size⟩, Turns.of hf fun k hk => .inl (by rw [hk]; exact ⟨_, _, hx⟩)⟩
/-- The counter. -/
theorem RndV.count (h : RndV base lo b13 X P B w0 most st out cnt x bs vs vo va ls cl W) {c' : Nat} (hf : Fr (fun q => q = B.b10) W W') (hc : Holds W' B.b10 3 [.int .i64 (c' : Int)]) : RndV base lo b13 X P B w0 most st out c' x bs vs vo va ls cl W' ∧ Turns lo W W' := by
  obtain ⟨fa, h1, h2⟩ := h.row
  obtain ⟨fo, n1, n2⟩ := h.ex.nodes
  obtain ⟨l3, l4, l5, l6, l7, l8, l9, l10, lm⟩ := h.lts
  have hg := h.ge
  have e := h.ex
  have hge := e.ge
  have q3 : B.b3 ≠ B.b10 := Nat.ne_of_lt e.ne.2.2
  have q4 : B.b4 ≠ B.b10 := e.r4.ne_of_type e.cnt_ (by decide)
  have q5 : B.b5 ≠ B.b10 := e.r5.ne_of_type e.cnt_ (by decide)
  have q6 : B.b6 ≠ B.b10 := e.r6.ne_of_type e.cnt_ (by decide)
  have q7 : B.b7 ≠ B.b10 := e.states.ne_of_type e.cnt_ (by decide)
  have q8 : B.b8 ≠ B.b10 := e.maps.ne_of_type e.cnt_ (by decide)
  have q9 : B.b9 ≠ B.b10 := e.outs.ne_of_type e.cnt_ (by decide)
  have qm : B.m ≠ B.b10 := e.num.ne e.cnt_
  have qs : vs.ownBlock ≠ some B.b10 := owns_ne_holds e.row e.cnt_ (by decide)
  have qo : vo.ownBlock ≠ some B.b10 := owns_ne_holds n1 e.cnt_ (by decide)
  refine ⟨⟨⟨e.ne, e.ge, e.below.trans (hf.to_below (by omega) fun k hk hF => by omega), hf.holds e.most_ q3, hf.holds e.r4 q4, hf.holds e.r5 q5, hf.holds e.r6 q6, hf.holds e.states q7, hf.owns e.row fun g hg he => qs (by rw [← he]; exact hg), hf.holds e.maps q8, e.num.of_eq (hf.block _ e.num.lt qm), hf.holds e.outs q9,
    ⟨fo, hf.owns n1 fun g hg he => qo (by rw [← he]; exact hg), LsF.up (fun _ _ => oneNode.up fun k hk hs => hf.block k hs (e.far k hk).2.2.2.1) _ n2⟩, e.far, hc⟩,
    hf.holds h.node (by omega), ⟨fa, hf.owns h1 fun g hg he => by have := owns_ge h1 g hg; omega, LsF.up (fun _ _ => oneArc.up fun k hk hs => hf.block k hs (by have := hk.1; omega)) _ h2⟩, LsF.up (fun _ _ => oneArc.up fun k hk hs => hf.block k hs (by have := hk.1; omega)) _ h.loose, h.far, h.hvo, h.lts, h.ge.1, h.ge.2.1, Nat.le_trans h.ge.2.2 hf.size⟩, Turns.of hf fun k hk => .inl (by rw [hk]; exact ⟨_, _, e.cnt_⟩)⟩
/-- A state more. -/
theorem RndV.more (h : RndV base lo b13 X P B w0 most st out cnt x bs vs vo va ls cl W) {st' : List Nat} {vs' : Value} (hf : Fr (fun q => q = B.m ∨ q = B.b7 ∨ vs.ownBlock = some q) W W') (hn : NumV W' B.m st'.length st') (h7 : Holds W' B.b7 41 [vs'])
    (hr : W'.ownsRow base 9 1 vs' st'.length (st'.map fun m => .string (keyS m))) (hv : vs'.ownBlock = vs.ownBlock ∨ ∃ g, vs'.ownBlock = some g ∧ W.heap.size ≤ g) : RndV base lo b13 X P B w0 most st' out cnt x bs vs' vo va ls cl W' ∧ Turns lo W W' := by
  obtain ⟨fa, h1, h2⟩ := h.row
  obtain ⟨fo, n1, n2⟩ := h.ex.nodes
  obtain ⟨l3, l4, l5, l6, l7, l8, l9, l10, lm⟩ := h.lts
  have hg := h.ge
  have e := h.ex
  have hge := e.ge
  have hso : ∀ g, vs.ownBlock = some g → base ≤ g := owns_ge e.row
  have s3 : vs.ownBlock ≠ some B.b3 := owns_ne_holds e.row e.most_ (by decide)
  have s4 : vs.ownBlock ≠ some B.b4 := owns_ne_holds e.row e.r4 (by decide)
  have s5 : vs.ownBlock ≠ some B.b5 := owns_ne_holds e.row e.r5 (by decide)
  have s6 : vs.ownBlock ≠ some B.b6 := owns_ne_holds e.row e.r6 (by decide)
  have s8 : vs.ownBlock ≠ some B.b8 := owns_ne_holds e.row e.maps (by decide)
  have s9 : vs.ownBlock ≠ some B.b9 := owns_ne_holds e.row e.outs (by decide)
  have s10 : vs.ownBlock ≠ some B.b10 := owns_ne_holds e.row e.cnt_ (by decide)
  have q3 : B.b3 ≠ B.b7 := e.most_.ne_of_type e.states (by decide)
  have q4 : B.b4 ≠ B.b7 := e.r4.ne_of_type e.states (by decide)
  have q5 : B.b5 ≠ B.b7 := Nat.ne_of_lt e.ne.2.1
  have q6 : B.b6 ≠ B.b7 := e.r6.ne_of_type e.states (by decide)
  have q8 : B.b8 ≠ B.b7 := e.maps.ne_of_type e.states (by decide)
  have q9 : B.b9 ≠ B.b7 := e.outs.ne_of_type e.states (by decide)
  have q10 : B.b10 ≠ B.b7 := e.cnt_.ne_of_type e.states (by decide)
  have m3 := e.num.ne e.most_
  have m4 := e.num.ne e.r4
  have m5 := e.num.ne e.r5
  have m6 := e.num.ne e.r6
  have m8 := e.num.ne e.maps
  have m9 := e.num.ne e.outs
  have m10 := e.num.ne e.cnt_
  have no : ∀ {g : Nat}, g ≠ B.m → g ≠ B.b7 → vs.ownBlock ≠ some g → ¬ (g = B.m ∨ g = B.b7 ∨ vs.ownBlock = some g) := fun a b c hh => by
    rcases hh with hh | hh | hh
    · exact a hh
    · exact b hh
    · exact c hh
  have hvo2 : ∀ g, vo.ownBlock = some g → ¬ (g = B.m ∨ g = B.b7 ∨ vs.ownBlock = some g) := fun g hg => by
    obtain ⟨cs, hh⟩ := owns_holds n1 hg
    exact no (Ne.symm (e.num.ne hh)) (hh.ne_of_type e.states (by decide)) (owns_ne_holds e.row hh (by decide))
  have hPA : ∀ k, PA lo X vs va k → ¬ (k = B.m ∨ k = B.b7 ∨ vs.ownBlock = some k) := fun k hk => no (by have := hk.1; omega) (by have := hk.1; omega) hk.2.2.1
  have hup : ∀ (l : List PArc) (f : List Value), LsF ArcF (PA lo X vs va) W l f → LsF ArcF (PA lo X vs' va) W' l f := fun l f h2 => by
    have a1 := LsF.mono (fun _ _ => ArcF.mono (Wide.in_ (w := W))) _ h2
    have a2 := LsF.up (w' := W') (fun _ _ => oneArc.up fun k hk hs => hf.block k hs (hPA k hk.1)) _ a1
    refine LsF.mono (fun _ _ => ArcF.mono fun k hk _ => ⟨hk.1.1, hk.1.2.1, ?_, hk.1.2.2.2⟩) _ a2
    rcases hv with hv | ⟨g, hv, hg⟩
    · rw [hv]; exact hk.1.2.2.1
    · rw [hv]; intro he; injection he with he; have := hk.2; omega
  have hfar : ∀ k, P k → ExP base B vs' vo k := fun k hk => by
    obtain ⟨f1, f2, f3, f4, f5, f6, f7⟩ := e.far k hk
    refine ⟨f1, f2, f3, f4, f5, ?_, f7⟩
    rcases hv with hv | ⟨g, hv, hg⟩
    · rw [hv]; exact f6
    · rw [hv]; intro he; injection he with he; have := h.far k hk; omega
  refine ⟨⟨⟨e.ne, e.ge, e.below.trans (hf.to_below (by omega) fun k hk hF => ?_), hf.holds e.most_ (no (Ne.symm m3) q3 s3), hf.holds e.r4 (no (Ne.symm m4) q4 s4), hf.holds e.r5 (no (Ne.symm m5) q5 s5), hf.holds e.r6 (no (Ne.symm m6) q6 s6), h7, hr, hf.holds e.maps (no (Ne.symm m8) q8 s8), hn, hf.holds e.outs (no (Ne.symm m9) q9 s9),
    ⟨fo, hf.owns n1 hvo2, LsF.up (fun _ _ => oneNode.up fun k hk hs => hf.block k hs (no (e.far k hk).2.2.2.2.1 (e.far k hk).2.1 (e.far k hk).2.2.2.2.2.1)) _ n2⟩, hfar, hf.holds e.cnt_ (no (Ne.symm m10) q10 s10)⟩,
    hf.holds h.node (no (by omega) (by omega) h.vs13), ⟨fa, hf.owns h1 fun g hg => ?_, hup _ _ h2⟩, hup _ _ h.loose, h.far, h.hvo, h.lts, h.ge.1, h.ge.2.1, Nat.le_trans h.ge.2.2 hf.size⟩, Turns.of hf fun k hk => ?_⟩
  · rcases hF with rfl | rfl | hF
    · omega
    · omega
    · have := hso k hF; omega
  · have hge := owns_ge h1 g hg
    obtain ⟨cs, hh⟩ := owns_holds h1 hg
    exact no (by omega) (by omega) (owns_ne_holds e.row hh (by decide))
  · rcases hk with rfl | rfl | hk
    · exact .inr ⟨by omega, _, _, e.num⟩
    · exact .inl ⟨_, _, e.states⟩
    · obtain ⟨cs, hh⟩ := owns_holds e.row hk
      exact .inl ⟨_, _, hh⟩
/-- An arc more. -/
theorem RndV.push {b : PArc} {va' : Value} {fa c : List Value} (h : RndV base lo b13 X P B w0 most st out cnt x bs vs vo va [b] c W) (hfa : LsF ArcF (PA lo X vs va) W bs fa) (hf : Fr (fun q => q = b13 ∨ va.ownBlock = some q) W W') (h13 : Holds W' b13 81 (nodeC va' x))
    (hr : W'.ownsRow lo 86 6 va' (bs.length + 1) (fa ++ c)) (hv : va'.ownBlock = va.ownBlock ∨ ∃ g, va'.ownBlock = some g ∧ W.heap.size ≤ g) : RndV base lo b13 X P B w0 most st out cnt x (bs ++ [b]) vs vo va' [] [] W' ∧ Turns lo W W' := by
  obtain ⟨fa0, h1, h2⟩ := h.row
  have hg := h.ge
  have hge := owns_ge h1
  have hPA : ∀ k, PA lo X vs va k → ¬ (k = b13 ∨ va.ownBlock = some k) := fun k hk hh => by
    rcases hh with rfl | hh
    · have := hk.1; omega
    · exact hk.2.2.2 hh
  refine ⟨⟨h.exfr hf fun k hk => ?_, h13, ⟨fa ++ c, by simpa using hr, ?_⟩, rfl, h.far, h.hvo, h.lts, h.ge.1, h.ge.2.1, Nat.le_trans h.ge.2.2 hf.size⟩, Turns.of hf fun k hk => ?_⟩
  · rcases hk with rfl | hk
    · exact ⟨Nat.le_refl _, h.vs13⟩
    · obtain ⟨cs, hh⟩ := owns_holds h1 hk
      exact ⟨by have := hge k hk; omega, owns_ne_holds h.ex.row hh (by decide)⟩
  · have a0 := LsF.append hfa h.loose
    have a1 := LsF.mono (fun _ _ => ArcF.mono (Wide.in_ (w := W))) _ a0
    have a2 := LsF.up (w' := W') (fun _ _ => oneArc.up fun k hk hs => hf.block k hs (hPA k hk.1)) _ a1
    refine LsF.mono (fun _ _ => ArcF.mono fun k hk _ => ⟨hk.1.1, hk.1.2.1, hk.1.2.2.1, ?_⟩) _ a2
    rcases hv with hv | ⟨g, hv, hg⟩
    · rw [hv]; exact hk.1.2.2.2
    · rw [hv]; intro he; injection he with he; have := hk.2; omega
  · rcases hk with rfl | hk
    · exact .inl ⟨_, _, h.node⟩
    · obtain ⟨cs, hh⟩ := owns_holds h1 hk
      exact .inl ⟨_, _, hh⟩
theorem RndV.kept (h : RndV base lo b13 X P B w0 most st out cnt x bs vs vo va ls cl W) {row : Option Nat} (hg : W.grownBy W' row) (hr : ∀ r, row = some r → lo ≤ r ∧ ∃ o : Obj, W.heap[r]? = some o ∧ o.isCells = false) : RndV base lo b13 X P B w0 most st out cnt x bs vs vo va ls cl W' := by
  obtain ⟨fa, h1, h2⟩ := h.row
  have hr2 : ∀ r, row = some r → ∃ o : Obj, W.heap[r]? = some o ∧ o.isCells = false := fun r e => (hr r e).2
  have hge := h.ge
  have hl := h.lts
  exact ⟨h.ex.kept hg hr (by omega) (by omega) (fun k hk => by have := h.far k hk; omega), h.node.kept_row hg hr2, ⟨fa, owns_kept h1 hg hr2, LsF.up (fun _ _ => ArcF.kept hg hr2) _ h2⟩, LsF.up (fun _ _ => ArcF.kept hg hr2) _ h.loose, h.far, h.hvo, h.lts, h.ge.1, h.ge.2.1, Nat.le_trans h.ge.2.2 hg.size⟩
/-- The round's beginning. -/
theorem RndV.start {wr : World} (hE : ExV base P B w0 wr most st out cnt vs vo) (hb : Below wr.heap.size wr W) (hn : Holds W b13 81 (nodeC (.slice none 0 0) x)) (h13 : wr.heap.size ≤ b13) : RndV base W.heap.size b13 0 (fun k => P k ∧ k < wr.heap.size) B w0 most st out cnt x [] vs vo (.slice none 0 0) [] [] W := by
  obtain ⟨fo, n1, n2⟩ := hE.nodes
  have hE2 : ExV base (fun k => P k ∧ k < wr.heap.size) B w0 wr most st out cnt vs vo := ⟨hE.ne, hE.ge, hE.below, hE.most_, hE.r4, hE.r5, hE.r6, hE.states, hE.row, hE.maps, hE.num, hE.outs, ⟨fo, n1, LsF.mono (fun _ _ => NodeF.mono Wide.in_) _ n2⟩, fun k hk => hE.far k hk.1, hE.cnt_⟩
  have hlt := hn.lt
  have z : ∀ {g : Nat} {t : TypeId} {cs : List Value}, Holds wr g t cs → g < b13 := fun h => Nat.lt_of_lt_of_le h.lt h13
  refine ⟨hE2.fr (Fr.of_below hb (fun _ => False)) fun k hk => hk.elim, hn, ⟨[], ⟨rfl, .inl ⟨rfl, rfl⟩⟩, rfl⟩, rfl, fun k hk => Nat.lt_of_lt_of_le hk.2 h13, fun g hg => Nat.lt_of_lt_of_le (owns_lt n1 g hg) h13, ⟨z hE.most_, z hE.r4, z hE.r5, z hE.r6, z hE.states, z hE.maps, z hE.outs, z hE.cnt_, Nat.lt_of_lt_of_le hE.num.lt h13⟩, ?_, hlt, Nat.le_refl _⟩
  have := hE.states.lt
  have := hE.ge
  omega
/-- What holds within the range, behind its j-th round; what its body begins with; and where it is left early. -/
def RngI (base lo b13 : Nat) (P : Nat → Prop) (B : ExB) (w0 : World) (most : Nat) (st : List Nat) (out : PNet) (cnt : Nat) (x : PNode) (vo : Value) (ds : List Nat) (j : Nat) (W : World) : Prop :=
  ∃ st1 bs vs va, stepAs most st (x.arcs.take j) = some (st1, bs) ∧ RndV base lo b13 0 P B w0 most st1 out (cnt + j) x bs vs vo va [] [] W ∧ j ≤ x.arcs.length ∧ ∀ D ∈ ds, base ≤ D ∧ W.heap[D]? = some (Obj.deferred (some []))
def arcC (b : PArc) (vr vw : Value) : List Value := [.int .i64 b.proc, .int .i64 b.to, .int .i64 b.bad, vr, vw, .int .u64 (b.turns : Int)]
def RngA (base lo b13 : Nat) (P : Nat → Prop) (B : ExB) (w0 : World) (most : Nat) (st : List Nat) (out : PNet) (cnt : Nat) (x : PNode) (vo : Value) (ds : List Nat) (j b14 : Nat) (W : World) : Prop :=
  ∃ (hj : j < x.arcs.length) (st1 : List Nat) (bs : List PArc) (vs va vr vw : Value), stepAs most st (x.arcs.take j) = some (st1, bs) ∧ RndV base lo b13 0 P B w0 most st1 out (cnt + j) x bs vs vo va [x.arcs[j].goes 0] (arcC (x.arcs[j].goes 0) vr vw) W ∧ Holds W b14 75 (mvC j x.arcs[j] (toS x.arcs[j]) vr vw) ∧
    ∀ D ∈ ds, base ≤ D ∧ W.heap[D]? = some (Obj.deferred (some []))
def RngX (base : Nat) (B : ExB) (w0 : World) (most : Nat) (st : List Nat) (x : PNode) (ds : List Nat) (W : World) : Prop :=
  stepAs most st x.arcs = none ∧ Below base w0 W ∧ Holds W B.b4 24 [.slice none 0 0] ∧ Holds W B.b5 41 [.slice none 0 0] ∧ Holds W B.b6 31 [.int .i64 131] ∧ ∀ D ∈ ds, base ≤ D ∧ W.heap[D]? = some (Obj.deferred (some []))
theorem marks_kept {ds : List Nat} {row : Option Nat} (hg : W.grownBy W' row) (hr : ∀ r, row = some r → lo ≤ r) (h : ∀ D ∈ ds, base ≤ D ∧ W.heap[D]? = some (Obj.deferred (some []))) (hd : ∀ D ∈ ds, D < lo) : ∀ D ∈ ds, base ≤ D ∧ W'.heap[D]? = some (Obj.deferred (some [])) := fun D hD =>
  ⟨(h D hD).1, (hg.block D (Array.getElem?_eq_some_iff.1 (h D hD).2).1 fun e => by have := hr D e.symm; have := hd D hD; omega).trans (h D hD).2⟩
theorem marks_below {ds : List Nat} (hb : Below W.heap.size W W') (h : ∀ D ∈ ds, base ≤ D ∧ W.heap[D]? = some (Obj.deferred (some []))) : ∀ D ∈ ds, base ≤ D ∧ W'.heap[D]? = some (Obj.deferred (some [])) := fun D hD =>
  ⟨(h D hD).1, (hb.block D (Array.getElem?_eq_some_iff.1 (h D hD).2).1).trans (h D hD).2⟩
theorem arc_forms {P : Nat → Prop} {w : World} {b : PArc} {vr vw : Value} (h : ArcF P w b (arcC b vr vw)) : ∃ a1 n1 c1 a2 n2 c2, vr = .slice a1 n1 c1 ∧ vw = .slice a2 n2 c2 := by
  obtain ⟨vr2, vw2, h1, h2, h3⟩ := h
  simp only [arcC, List.cons.injEq, true_and, and_true] at h1
  obtain ⟨rfl, rfl⟩ := h1
  obtain ⟨a1, c1, e1, _⟩ := h2.form
  obtain ⟨a2, c2, e2, _⟩ := h3.form
  exact ⟨_, _, _, _, _, _, e1, e2⟩
theorem RngI.kept {ds : List Nat} {j : Nat} {row : Option Nat} (h : RngI base lo b13 P B w0 most st out cnt x vo ds j W) (hg : W.grownBy W' row) (hr : ∀ r, row = some r → lo ≤ r ∧ ∃ o : Obj, W.heap[r]? = some o ∧ o.isCells = false) (hd : ∀ D ∈ ds, D < lo) : RngI base lo b13 P B w0 most st out cnt x vo ds j W' := by
  obtain ⟨st1, bs, vs, va, h1, h2, h3, h4⟩ := h
  exact ⟨st1, bs, vs, va, h1, h2.kept hg hr, h3, marks_kept hg (fun r e => (hr r e).1) h4 hd⟩
theorem RngI.fresh {ds : List Nat} {j : Nat} (h : RngI base lo b13 P B w0 most st out cnt x vo ds j W) (hb : Below W.heap.size W W') : RngI base lo b13 P B w0 most st out cnt x vo ds j W' := by
  obtain ⟨st1, bs, vs, va, h1, h2, h3, h4⟩ := h
  exact ⟨st1, bs, vs, va, h1, h2.fresh hb, h3, marks_below hb h4⟩
theorem RngA.kept {ds : List Nat} {j b14 : Nat} {row : Option Nat} (h : RngA base lo b13 P B w0 most st out cnt x vo ds j b14 W) (hg : W.grownBy W' row) (hr : ∀ r, row = some r → lo ≤ r ∧ ∃ o : Obj, W.heap[r]? = some o ∧ o.isCells = false) (hd : ∀ D ∈ ds, D < lo) : RngA base lo b13 P B w0 most st out cnt x vo ds j b14 W' := by
  obtain ⟨hj, st1, bs, vs, va, vr, vw, h1, h2, h3, h4⟩ := h
  exact ⟨hj, st1, bs, vs, va, vr, vw, h1, h2.kept hg hr, h3.kept_row hg fun r e => (hr r e).2, marks_kept hg (fun r e => (hr r e).1) h4 hd⟩
theorem RngX.kept {ds : List Nat} {row : Option Nat} (h : RngX base B w0 most st x ds W) (hg : W.grownBy W' row) (hr : ∀ r, row = some r → lo ≤ r ∧ ∃ o : Obj, W.heap[r]? = some o ∧ o.isCells = false) (hd : ∀ D ∈ ds, D < lo) (hb : base ≤ lo) (hl : base ≤ w0.heap.size) : RngX base B w0 most st x ds W' := by
  obtain ⟨h0, h1, h2, h3, h4, h5⟩ := h
  have hr2 : ∀ r, row = some r → ∃ o : Obj, W.heap[r]? = some o ∧ o.isCells = false := fun r e => (hr r e).2
  exact ⟨h0, h1.grown hg (by have := h1.size; omega) fun k hk => by have := (hr k hk).1; omega, h2.kept_row hg hr2, h3.kept_row hg hr2, h4.kept_row hg hr2, marks_kept hg (fun r e => (hr r e).1) h5 hd⟩
/-- What the iterator hands over is laid in its box. -/
theorem RngA.start {ds : List Nat} {j b14 : Nat} {W0 : World} {vr vw : Value} (h : RngI base lo b13 P B w0 most st out cnt x vo ds j W0) (hb : Below W0.heap.size W0 W) (hj : j < x.arcs.length) (hr : RowX W0.heap.size W vr x.arcs[j].reads) (hw : RowX W0.heap.size W vw x.arcs[j].writes)
    (hb2 : Below W.heap.size W W') (h14 : Holds W' b14 75 (mvC j x.arcs[j] (toS x.arcs[j]) vr vw)) : RngA base lo b13 P B w0 most st out cnt x vo ds j b14 W' := by
  obtain ⟨st1, bs, vs, va, h1, h2, h3, h4⟩ := h
  obtain ⟨fa, k1, k2⟩ := h2.row
  have hb3 : Below W0.heap.size W0 W' := hb.trans (hb2.mono hb.size)
  have hg := h2.ge
  have hwide : Wide (From W0.heap.size) (PA lo 0 vs va) W := fun k hk _ => ⟨Nat.le_trans hg.2.2 hk, by have : W0.heap.size ≤ k := hk; omega, fun e => by have := owns_lt h2.ex.row k e; have : W0.heap.size ≤ k := hk; omega, fun e => by have := owns_lt k1 k e; have : W0.heap.size ≤ k := hk; omega⟩
  have h5 := h2.fresh hb3
  refine ⟨hj, st1, bs, vs, va, vr, vw, h1, ⟨h5.ex, h5.node, h5.row, LsF.sing ⟨vr, vw, rfl, (hr.2.mono hwide).up (Keep.below hb2), (hw.2.mono hwide).up (Keep.below hb2)⟩, h5.far, h5.hvo, h5.lts, h5.ge⟩, h14, marks_below hb3 h4⟩
end
theorem below_two {base : Nat} {w0 A C : World} (h : Below base w0 A) (k : Below base w0 C) (hs : A.heap.size ≤ C.heap.size) : Below base A C :=
  ⟨k.os.trans h.os.symm, k.tape.trans h.tape.symm, k.output.trans h.output.symm, hs, fun i hi => (k.block i hi).trans (h.block i hi).symm⟩
section
variable {base lo b13 X : Nat} {P : Nat → Prop} {B : ExB} {w0 W W' : World} {most : Nat} {st : List Nat} {out : PNet} {cnt : Nat} {x : PNode} {bs : List PArc} {vs vo va : Value}
theorem RndV.loosen {b : PArc} {vr vw : Value} (h : RndV base lo b13 X P B w0 most st out cnt x bs vs vo va [b] (arcC b vr vw) W) (c : Int) : RndV base lo b13 X P B w0 most st out cnt x bs vs vo va [b.goes c] (arcC (b.goes c) vr vw) W := by
  obtain ⟨vr2, vw2, h1, h2, h3⟩ := h.loose.arc1
  simp only [arcC, List.cons.injEq, true_and, and_true] at h1
  obtain ⟨rfl, rfl⟩ := h1
  exact ⟨h.ex, h.node, h.row, LsF.sing ⟨vr, vw, rfl, h2, h3⟩, h.far, h.hvo, h.lts, h.ge⟩
/-- The arc is laid in a new box. -/
theorem RndV.lay {b : PArc} {vr vw : Value} (h : RndV base lo b13 0 P B w0 most st out cnt x bs vs vo va [b] (arcC b vr vw) W) (c : Int) {W1 : World} (hW1 : W1 = W.alloc (.cells (arcC (b.goes c) vr vw).toArray 86)) :
    RndV base lo b13 W.heap.size P B w0 most st out cnt x bs vs vo va [b.goes c] (arcC (b.goes c) vr vw) W1 ∧ Holds W1 W.heap.size 86 (arcC (b.goes c) vr vw) ∧ Turns lo W W1 := by
  have hb : Below W.heap.size W W1 := by rw [hW1]; exact (Below.refl _ _).alloc (Nat.le_refl _) _
  refine ⟨((h.arm (Nat.le_refl _)).fresh hb).loosen c, ?_, Turns.below hb⟩
  rw [hW1]
  exact Holds.new W 86 (arcC (b.goes c) vr vw).toArray
/-- A state more, step by step. -/
theorem RndV.grow {ls : List PArc} {cl : List Value} (h : RndV base lo b13 X P B w0 most st out cnt x bs vs vo va ls cl W) {k : Nat} {W2 W4 W5 : World} {o : Obj} {vs' : Value} (hn2 : NumV W2 B.m (st.length + 1) (st ++ [k])) (hg2 : W.grownBy W2 (some B.m))
    (hown : W4.ownsRow base 9 1 vs' (st.length + 1) ((st.map fun m => .string (keyS m)) ++ [.string (keyS k)])) (hgr : (W2.alloc o).grownBy W4 vs.ownBlock) (hblk : vs'.ownBlock = vs.ownBlock ∨ vs'.ownBlock = some (W2.alloc o).heap.size) (hW5 : W5 = setR W4 B.b7 0 [vs']) :
    RndV base lo b13 X P B w0 most (st ++ [k]) out cnt x bs vs' vo va ls cl W5 ∧ Turns lo W W5 ∧ Fr (fun q => q = B.m ∨ q = B.b7 ∨ vs.ownBlock = some q) W W5 := by
  have e := h.ex
  have hs2 : W2.heap.size ≤ (W2.alloc o).heap.size := by simp
  have hf4 : Fr (fun q => q = B.m ∨ q = B.b7 ∨ vs.ownBlock = some q) W W4 := (((Fr.refl _ W).grown hg2 fun q hq _ => by injection hq with hq; exact .inl hq.symm).alloc o).grown hgr fun q hq _ => .inr (.inr hq)
  have hf5 : Fr (fun q => q = B.b7) W4 W5 := by rw [hW5]; exact Fr.setRX _ _ 0 _
  have hf : Fr (fun q => q = B.m ∨ q = B.b7 ∨ vs.ownBlock = some q) W W5 := hf4.trans hf5 fun q _ hq => .inr (.inl hq)
  have h72 : Holds W2 B.b7 41 [vs] := e.states.of_eq (hg2.block _ e.states.lt fun he => by injection he with he; exact e.num.ne e.states he.symm)
  have ho2 : W2.ownsRow base 9 1 vs st.length (st.map fun m => .string (keyS m)) := ((Fr.refl (fun q => some q = some B.m) W).grown hg2 fun q hq _ => hq.symm).owns e.row fun g hg he => by
    obtain ⟨cs, hh⟩ := owns_holds e.row hg
    injection he with he
    exact e.num.ne hh he.symm
  have h74 : Holds W4 B.b7 41 [vs] := (h72.alloc o).of_eq (hgr.block _ (h72.alloc o).lt fun he => owns_ne_holds ho2 h72 (by decide) he.symm)
  have h75 : Holds W5 B.b7 41 [vs'] := h74.stored hW5 (Nat.le_refl _)
  have hm5 : W5.heap[B.m]? = W2.heap[B.m]? := by
    have k1 := hn2.lt
    have k2 : (W2.alloc o).heap[B.m]? = W2.heap[B.m]? := Below.heap_alloc _ _ _ k1
    have k3 : W4.heap[B.m]? = (W2.alloc o).heap[B.m]? := hgr.block _ (Nat.lt_of_lt_of_le k1 hs2) fun he => by
      obtain ⟨cs, hh⟩ := owns_holds ho2 he.symm
      exact hn2.ne hh rfl
    exact ((hf5.block _ (Nat.lt_of_lt_of_le (Nat.lt_of_lt_of_le k1 hs2) hgr.size) fun he => hn2.ne h72 he).trans k3).trans k2
  have hr5 : W5.ownsRow base 9 1 vs' (st ++ [k]).length ((st ++ [k]).map fun m => .string (keyS m)) := by
    rw [List.length_append, List.map_append]
    exact hf5.owns hown fun g hg he => owns_ne_holds hown h74 (by decide) (by rw [← he]; exact hg)
  have hv : vs'.ownBlock = vs.ownBlock ∨ ∃ g, vs'.ownBlock = some g ∧ W.heap.size ≤ g := hblk.imp id fun hb => ⟨_, hb, Nat.le_trans hg2.size hs2⟩
  obtain ⟨r1, r2⟩ := h.more hf (by rw [List.length_append]; exact hn2.of_eq hm5) h75 hr5 hv
  exact ⟨r1, r2, hf⟩
/-- The round's end: the arc is put behind the others. -/
theorem RndV.done {b : PArc} {c : List Value} {va' : Value} {fa : List Value} {W4 W5 : World} {o : Obj} (h : RndV base lo b13 X P B w0 most st out cnt x bs vs vo va [b] c W) (hfa : LsF ArcF (PA lo X vs va) W bs fa)
    (hown : W4.ownsRow lo 86 6 va' (bs.length + 1) (fa ++ c)) (hgr : (W.alloc o).grownBy W4 va.ownBlock) (hblk : va'.ownBlock = va.ownBlock ∨ va'.ownBlock = some (W.alloc o).heap.size) (hW5 : W5 = setR W4 b13 0 [va']) :
    RndV base lo b13 X P B w0 most st out cnt x (bs ++ [b]) vs vo va' [] [] W5 ∧ Turns lo W W5 := by
  obtain ⟨fa0, h1, h2⟩ := h.row
  have hs2 : W.heap.size ≤ (W.alloc o).heap.size := by simp
  have hf4 : Fr (fun q => q = b13 ∨ va.ownBlock = some q) W W4 := ((Fr.refl _ W).alloc o).grown hgr fun q hq _ => .inr hq
  have hf5 : Fr (fun q => q = b13) W4 W5 := by rw [hW5]; exact Fr.setRX _ _ 0 _
  have h4 : Holds W4 b13 81 (nodeC va x) := (h.node.alloc o).of_eq (hgr.block _ (h.node.alloc o).lt fun he => owns_ne_holds h1 h.node (by decide) he.symm)
  have h5 : Holds W5 b13 81 (nodeC va' x) := h4.stored hW5 (Nat.le_of_ble_eq_true rfl)
  exact h.push hfa (hf4.trans hf5 fun q _ hq => .inl hq) h5 (hf5.owns hown fun g hg he => owns_ne_holds hown h4 (by decide) (by rw [← he]; exact hg)) (hblk.imp id fun hb => ⟨_, hb, hs2⟩)
end
theorem RowL.of_owns2 {P : Nat → Prop} {w : World} {base size n : Nat} {v : Value} {flat : List Value} {e : TypeId} (h : w.ownsRow base e size v n flat) (hl : ∀ g, v.ownBlock = some g → P g) : RowL P w size v n flat := by
  have h2 := RowL.of_owns (P := fun k => v.ownBlock = some k ∨ v.ownBlock ≠ some k) h (fun k _ => Classical.em _)
  have hlen := h.1
  rcases h.2 with ⟨h0, h1⟩ | ⟨g, cap, cur, hv, hb, hg, hnc, hcm, hcs, ht⟩
  · subst h0
    subst h1
    exact ⟨none, 0, rfl, by omega, by omega, hlen, fun _ => rfl, fun hn => by omega⟩
  · subst hv
    exact ⟨some ⟨g, 0, none⟩, cap, rfl, hnc, by unfold maxLen at hcm; omega, hlen, (fun h => by cases h), fun hn => ⟨g, 0, cur.toList, e, rfl, hl g rfl, ⟨(0, 0), by simpa using hg⟩, fun j hj => by
      have h2 := h.cellAt (g := g) (j := j) hj
      rw [Nat.zero_add, ← h2, Holds.cell (show Holds w g e cur.toList by unfold Holds; simpa using hg)]⟩⟩
section
variable {base lo b13 X : Nat} {P : Nat → Prop} {B : ExB} {w0 W W' : World} {most : Nat} {st : List Nat} {out : PNet} {cnt : Nat} {x : PNode} {bs : List PArc} {vs vo va : Value}
/-- The outer round's end: the node is put behind the others. -/
theorem RndV.close {vo' : Value} {fo : List Value} {W4 W5 : World} {o : Obj} (h : RndV base lo b13 0 P B w0 most st out cnt x bs vs vo va [] [] W) (hfo : LsF NodeF P W out fo) (hn1 : W.ownsRow base 81 5 vo out.length fo)
    (hown : W4.ownsRow base 81 5 vo' (out.length + 1) (fo ++ nodeC va x)) (hgr : (W.alloc o).grownBy W4 vo.ownBlock) (hblk : vo'.ownBlock = vo.ownBlock ∨ vo'.ownBlock = some (W.alloc o).heap.size) (hW5 : W5 = setR W4 B.b9 0 [vo']) :
    ExV base (fun k => P k ∨ (lo ≤ k ∧ k < W.heap.size ∧ vs.ownBlock ≠ some k)) B w0 W5 most st (out ++ [{ x with arcs := bs }]) cnt vs vo' ∧ ∀ D : Nat, W.heap[D]? = some (Obj.deferred (some [])) → W5.heap[D]? = some (Obj.deferred (some [])) := by
  obtain ⟨fa, a1, a2⟩ := h.row
  have e := h.ex
  have hge := e.ge
  have hg := h.ge
  obtain ⟨l3, l4, l5, l6, l7, l8, l9, l10, lm⟩ := h.lts
  have hs2 : W.heap.size ≤ (W.alloc o).heap.size := by simp
  have hf4 : Fr (fun q => q = B.b9 ∨ vo.ownBlock = some q) W W4 := ((Fr.refl _ W).alloc o).grown hgr fun q hq _ => .inr hq
  have hf5 : Fr (fun q => q = B.b9) W4 W5 := by rw [hW5]; exact Fr.setRX _ _ 0 _
  have hf : Fr (fun q => q = B.b9 ∨ vo.ownBlock = some q) W W5 := hf4.trans hf5 fun q _ hq => .inl hq
  have h94 : Holds W4 B.b9 24 [vo] := (e.outs.alloc o).of_eq (hgr.block _ (e.outs.alloc o).lt fun he => owns_ne_holds hn1 e.outs (by decide) he.symm)
  have h95 : Holds W5 B.b9 24 [vo'] := h94.stored hW5 (Nat.le_refl _)
  have no : ∀ {g : Nat} {t : TypeId} {cs : List Value}, Holds W g t cs → t ≠ 81 → g ≠ B.b9 → ¬ (g = B.b9 ∨ vo.ownBlock = some g) := fun hh ht h9 hor => hor.elim h9 (owns_ne_holds hn1 hh (Ne.symm ht))
  have hv : ∀ g, vo'.ownBlock = some g → g < b13 ∨ W.heap.size ≤ g := fun g hgg => by
    rcases hblk with hb | hb
    · rw [hb] at hgg; exact .inl (h.hvo g hgg)
    · rw [hb] at hgg; injection hgg with hgg; right; omega
  have hPf : ∀ k, P k → ¬ (k = B.b9 ∨ vo.ownBlock = some k) := fun k hk hor => by
    obtain ⟨f1, f2, f3, f4, f5, f6, f7⟩ := e.far k hk
    exact hor.elim f3 f7
  have hQf : ∀ k, lo ≤ k → ¬ (k = B.b9 ∨ vo.ownBlock = some k) := fun k hk hor => by
    rcases hor with hor | hor
    · omega
    · have := h.hvo k hor; omega
  have hnode : NodeF (fun k => P k ∨ (lo ≤ k ∧ k < W.heap.size ∧ vs.ownBlock ≠ some k)) W5 { x with arcs := bs } (nodeC va x) := by
    have r1 : RowL (fun k => lo ≤ k ∧ k < W.heap.size ∧ vs.ownBlock ≠ some k) W 6 va bs.length fa := RowL.of_owns2 a1 fun g hgg => by
      obtain ⟨cs, hh⟩ := owns_holds a1 hgg
      exact ⟨owns_ge a1 g hgg, owns_lt a1 g hgg, owns_ne_holds e.row hh (by decide)⟩
    have hk : Keep (fun k => lo ≤ k ∧ k < W.heap.size ∧ vs.ownBlock ≠ some k) W W5 := fun k hk hs => hf.block k hs (hQf k hk.1)
    have r2 : LsF ArcF (fun k => lo ≤ k ∧ k < W.heap.size ∧ vs.ownBlock ≠ some k) W bs fa := LsF.mono (fun _ _ => ArcF.mono fun k hk hs => ⟨hk.1, hs, hk.2.2.1⟩) _ a2
    exact ⟨va, rfl, fa, (r1.up hk).mono fun k hk _ => .inr hk, LsF.mono (fun _ _ => ArcF.mono fun k hk _ => .inr hk) _ (LsF.up (fun _ _ => oneArc.up hk) _ r2)⟩
  refine ⟨⟨e.ne, e.ge, e.below.trans (hf.to_below (by omega) fun k hk hor => ?_), hf.holds e.most_ (no e.most_ (by decide) (e.most_.ne_of_type e.outs (by decide))), hf.holds e.r4 (no e.r4 (by decide) (Nat.ne_of_lt e.ne.1)), hf.holds e.r5 (no e.r5 (by decide) (e.r5.ne_of_type e.outs (by decide))), hf.holds e.r6 (no e.r6 (by decide) (e.r6.ne_of_type e.outs (by decide))),
    hf.holds e.states (no e.states (by decide) (e.states.ne_of_type e.outs (by decide))), hf.owns e.row fun g hgg => ?_, hf.holds e.maps (no e.maps (by decide) (e.maps.ne_of_type e.outs (by decide))), e.num.of_eq (hf.block _ e.num.lt fun hor => ?_), h95,
    ⟨fo ++ nodeC va x, ?_, LsF.append (LsF.mono (fun _ _ => NodeF.mono fun k hk _ => .inl hk) _ (LsF.up (fun _ _ => oneNode.up fun k hk hs => hf.block k hs (hPf k hk)) _ hfo)) (LsF.sing hnode)⟩, fun k hk => ?_, hf.holds e.cnt_ (no e.cnt_ (by decide) (e.cnt_.ne_of_type e.outs (by decide)))⟩, fun D hD => ?_⟩
  · rcases hor with rfl | hor
    · omega
    · have := owns_ge hn1 k hor; omega
  · obtain ⟨cs, hh⟩ := owns_holds e.row hgg
    exact no hh (by decide) (hh.ne_of_type e.outs (by decide))
  · rcases hor with hor | hor
    · exact e.num.ne e.outs hor
    · obtain ⟨cs, hh⟩ := owns_holds hn1 hor
      exact e.num.ne hh rfl
  · rw [List.length_append]
    exact hf5.owns hown fun g hgg he => owns_ne_holds hown h94 (by decide) (by rw [← he]; exact hgg)
  · rcases hk with hk | hk
    · obtain ⟨f1, f2, f3, f4, f5, f6, f7⟩ := e.far k hk
      exact ⟨f1, f2, f3, f4, f5, f6, fun he => by
        rcases hblk with hb | hb
        · rw [hb] at he; exact f7 he
        · rw [hb] at he; injection he with he; have := h.far k hk; omega⟩
    · exact ⟨by omega, by omega, by omega, by omega, by omega, hk.2.2, fun he => by have := hv k he; omega⟩
  · refine (hf.block D (Array.getElem?_eq_some_iff.1 hD).1 fun hor => ?_).trans hD
    rcases hor with rfl | hor
    · have h9 := e.outs
      unfold Holds at h9
      rw [h9] at hD
      cases hD
    · obtain ⟨cs, hh⟩ := owns_holds hn1 hor
      unfold Holds at hh
      rw [hh] at hD
      cases hD
end
/-- The rest of exploring: what is still to come, with what has been found, is the whole. -/
structure ExI (N : PNet) (most : Nat) (w : World) (base : Nat) (ds : List Nat) (i : Nat) (st : List Nat) (out : PNet) (cnt : Nat) (W : World) : Prop where
  met : Met N.length st
  at_ : i = out.length ∧ i ≤ st.length
  rest : ∃ fu, N.length < fu + i ∧ exF N most 20001 0 [0] = (exF N most fu i st).map fun p => (p.1, out ++ p.2)
  cnt_ : cnt = ((st.take i).map (arcsAt N)).sum
  marks : ds.Nodup ∧ ∀ D ∈ ds, base ≤ D ∧ W.heap[D]? = some (Obj.deferred (some []))
section
variable {N : PNet} {most : Nat} {w W : World} {base : Nat} {ds : List Nat} {i k : Nat} {st : List Nat} {out : PNet} {cnt : Nat} {x : PNode}
theorem ExI.fuel (h : ExI N most w base ds i st out cnt W) (hi : i < st.length) : ∃ fu, N.length < fu + 1 + i ∧ exF N most 20001 0 [0] = (exF N most (fu + 1) i st).map fun p => (p.1, out ++ p.2) := by
  obtain ⟨fu, h1, h2⟩ := h.rest
  have h3 := nodup_bound _ _ h.met.nodup h.met.lt
  cases fu with
  | zero => omega
  | succ fu => exact ⟨fu, h1, h2⟩
theorem ExI.none (h : ExI N most w base ds i st out cnt W) (hi : i < st.length) (hk : st[i] = k) (hx : N[k]? = some x) (hs : stepAs most st x.arcs = none) : exF N most 20001 0 [0] = none := by
  obtain ⟨fu, h1, h2⟩ := h.fuel hi
  rw [h2, exF, List.getElem?_eq_getElem hi, hk]
  simp only [hx, hs]
  rfl
theorem ExI.last (h : ExI N most w base ds i st out cnt W) (hi : ¬ i < st.length) : exF N most 20001 0 [0] = some (st, out) := by
  obtain ⟨fu, h1, h2⟩ := h.rest
  have h3 := nodup_bound _ _ h.met.nodup h.met.lt
  have h4 := h.at_.2
  cases fu with
  | zero => omega
  | succ fu =>
    rw [h2, exF, List.getElem?_eq_none (by omega)]
    simp
theorem ExI.next {ds' : List Nat} {W' : World} {st1 : List Nat} {bs : List PArc} (h : ExI N most w base ds i st out cnt W) (hi : i < st.length) (hk : st[i] = k) (hx : N[k]? = some x) (hs : stepAs most st x.arcs = some (st1, bs)) (hm : Met N.length st1) (hp : st <+: st1)
    (hmk : ds'.Nodup ∧ ∀ D ∈ ds', base ≤ D ∧ W'.heap[D]? = some (Obj.deferred (some []))) : ExI N most w base ds' (i + 1) st1 (out ++ [{ x with arcs := bs }]) (cnt + x.arcs.length) W' := by
  obtain ⟨fu, h1, h2⟩ := h.fuel hi
  have hl := hp.length_le
  have ht : st1.take (i + 1) = st.take i ++ [k] := by
    obtain ⟨r, rfl⟩ := hp
    rw [List.take_append_of_le_length (by omega), List.take_add_one, List.getElem?_eq_getElem hi, hk]
    rfl
  have ha : arcsAt N k = x.arcs.length := by
    unfold arcsAt
    rw [List.getD_eq_getElem?_getD, hx]
    rfl
  refine ⟨hm, ⟨by rw [List.length_append, ← h.at_.1]; rfl, by omega⟩, ⟨fu, by omega, ?_⟩, ?_, hmk⟩
  · rw [h2, exF, List.getElem?_eq_getElem hi, hk]
    simp only [hx, hs]
    cases exF N most fu (i + 1) st1 with
    | none => rfl
    | some p => simp
  · rw [ht, List.map_append, List.sum_append, ← h.cnt_, List.map_cons, ha]
    simp
theorem ExI.count (h : ExI N most w base ds i st out cnt W) (hi : i < st.length) (hk : st[i] = k) (hx : N[k]? = some x) (hN : chk N = true) : cnt + x.arcs.length ≤ 262144 := by
  have h3 := sum_bound N N.length (st.take (i + 1)) (Nat.le_refl _) (h.met.nodup.sublist (List.take_sublist _ _)) (fun y hy => h.met.lt y (List.mem_of_mem_take hy))
  have ha : arcsAt N k = x.arcs.length := by
    unfold arcsAt
    rw [List.getD_eq_getElem?_getD, hx]
    rfl
  rw [List.take_length, List.take_add_one, List.getElem?_eq_getElem hi, hk] at h3
  simp only [Option.toList, List.map_append, List.sum_append, List.map_cons, List.map_nil, List.sum_cons, List.sum_nil, ha, ← h.cnt_] at h3
  have hN2 := hN
  unfold chk at hN2
  simp only [Bool.and_eq_true, decide_eq_true_eq] at hN2
  omega
end
/-- What Explore hands back. -/
def ExPost (r : Option (List Nat × PNet)) (w : World) (e : Ending) (w' : World) : Prop := Below w.heap.size w w' ∧ match r with
  | some (st, g) => ∃ vn vs, e = .returned (.tuple #[.agg #[vn], vs, .int .i64 0]) ∧ NetV (From w.heap.size) w' vn g ∧ RowL (From w.heap.size) w' 1 vs st.length (st.map fun m => .string (keyS m))
  | none => e = .returned (.tuple #[.agg #[.slice none 0 0], .slice none 0 0, .int .i64 131])
theorem results_cells3 {P : Program} {fn : Func} {t u s : Tmp} {ty1 ty2 ty3 : TypeId} (h : fn.results = #[.cell t ty1, .cell u ty2, .cell s ty3]) {tmps : Array Value} {a1 a2 a3 : Addr} {v1 v2 v3 : Value} {w : World} (h1 : tmps.getD t undef = .pointer (some a1)) (h2 : tmps.getD u undef = .pointer (some a2)) (h3 : tmps.getD s undef = .pointer (some a3)) (e1 : (loadVar ty1 a1).run P w = .ok v1 w) (e2 : (loadVar ty2 a2).run P w = .ok v2 w) (e3 : (loadVar ty3 a3).run P w = .ok v3 w) :
    (results fn tmps).run P w = .ok (.tuple #[v1, v2, v3]) w := by
  rw [Array.getD_eq_getD_getElem?] at h1 h2 h3
  simp [results, h, h1, h2, h3, asAddr, Sem.run_bind, e1, e2, e3]
section
variable {F : Nat → Prop} {w w' : World}
/-- Blocks that hold no cells are turned: rows stand. -/
theorem Holds.keptF {g : Nat} {t : TypeId} {cs : List Value} (h : Holds w g t cs) (hf : Fr F w w') (hF : ∀ k, F k → ∃ o : Obj, w.heap[k]? = some o ∧ o.isCells = false) : Holds w' g t cs :=
  hf.holds h fun hg => by
    obtain ⟨o, ho, hc⟩ := hF g hg
    unfold Holds at h
    rw [h] at ho
    cases ho
    cases hc
theorem HoldsR.keptF {g : Nat} {t : TypeId} {cs : List Value} (h : HoldsR w g t cs) (hf : Fr F w w') (hF : ∀ k, F k → ∃ o : Obj, w.heap[k]? = some o ∧ o.isCells = false) : HoldsR w' g t cs :=
  h.of_eq (hf.block g h.lt fun hg => by
    obtain ⟨o, ho, hc⟩ := hF g hg
    obtain ⟨fr, h⟩ := h
    rw [h] at ho
    cases ho
    cases hc)
theorem RowL.keptF {P : Nat → Prop} {size n : Nat} {v : Value} {f : List Value} (h : RowL P w size v n f) (hf : Fr F w w') (hF : ∀ k, F k → ∃ o : Obj, w.heap[k]? = some o ∧ o.isCells = false) : RowL P w' size v n f := by
  obtain ⟨a, cap, h1, h2, h3, h4, h5, h6⟩ := h
  refine ⟨a, cap, h1, h2, h3, h4, h5, fun hn => ?_⟩
  obtain ⟨g, o, cs, t, k1, k2, k3, k4⟩ := h6 hn
  exact ⟨g, o, cs, t, k1, k2, k3.keptF hf hF, k4⟩
theorem NodeF.keptF {P : Nat → Prop} (hf : Fr F w w') (hF : ∀ k, F k → ∃ o : Obj, w.heap[k]? = some o ∧ o.isCells = false) {x : PNode} {c : List Value} (h : NodeF P w x c) : NodeF P w' x c := by
  obtain ⟨va, h1, f, h2, h3⟩ := h
  exact ⟨va, h1, f, h2.keptF hf hF, LsF.up (fun _ _ ⟨vr, vw, q1, q2, q3⟩ => ⟨vr, vw, q1, q2.keptF hf hF, q3.keptF hf hF⟩) _ h3⟩
theorem NetV.keptF {P : Nat → Prop} (hf : Fr F w w') (hF : ∀ k, F k → ∃ o : Obj, w.heap[k]? = some o ∧ o.isCells = false) {v : Value} {g : PNet} (h : NetV P w v g) : NetV P w' v g := by
  obtain ⟨f, h1, h2⟩ := h
  exact ⟨f, h1.keptF hf hF, LsF.up (fun _ _ => NodeF.keptF hf hF) _ h2⟩
end
end Go.Proofs.Ytpednhcfkjjcpaa
