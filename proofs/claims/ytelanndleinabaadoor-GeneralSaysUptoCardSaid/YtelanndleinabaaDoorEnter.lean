/- The search's memory; the walk of enter. -/
import Derived.Test.YtelanndleinabaaDoorStep
namespace Go.Proofs.YtelanndleinabaaDoor
open Go.RowKit
open Go.Maps (int_keyed keyOf_int_mk)
set_option linter.unusedVariables false

theorem own_mono {w : World} {base base' size n : Nat} {e : TypeId} {v : Value} {xs : List Value} (h : w.ownsRow base e size v n xs) (hb : base' ≤ base) : w.ownsRow base' e size v n xs :=
  ⟨h.1, h.2.imp id fun ⟨g, cap, cur, hv, hg, rest⟩ => ⟨g, cap, cur, hv, Nat.le_trans hb hg, rest⟩⟩

def nats (xs : List Nat) : List Value := xs.map fun (x : Nat) => Value.int .i64 (x : Int)
theorem nats_len (xs : List Nat) : (nats xs).length = xs.length := by simp [nats]

/-- Rows of other types than the search's own are left alone. -/
structure Kp (w w' : World) : Prop where
  size : w.heap.size ≤ w'.heap.size
  row : ∀ (g : Nat) (cs : Array Value) (t : TypeId), t ≠ 73 → t ≠ 3 → w.heap[g]? = some (.cells cs t (0, 0)) → w'.heap[g]? = some (.cells cs t (0, 0))
section
variable {a w w' : World}
theorem Kp.refl (w : World) : Kp w w := ⟨Nat.le_refl _, fun _ _ _ _ _ h => h⟩
theorem Kp.trans (h : Kp a w) (k : Kp w w') : Kp a w' := ⟨Nat.le_trans h.size k.size, fun g cs t h1 h2 h3 => k.row g cs t h1 h2 (h.row g cs t h1 h2 h3)⟩
theorem Kp.of_below (h : Below w.heap.size w w') : Kp w w' := ⟨h.size, fun g cs t _ _ hg => (h.block g (Array.getElem?_eq_some_iff.1 hg).1).trans hg⟩
theorem Kp.drew (h : Kp a w) : Kp a w.drew := ⟨h.size, h.row⟩
theorem Kp.drewN (h : Kp a w) (n : Nat) : Kp a (w.drewN n) := ⟨h.size, h.row⟩
theorem Kp.alloc (h : Kp a w) (o : Obj) : Kp a (w.alloc o) := h.trans (Kp.of_below ((Below.refl _ _).alloc (Nat.le_refl _) _))
theorem Kp.grown {b : Option Nat} (h : Kp a w) (hg : w.grownBy w' b) (hb : ∀ (g : Nat) (cs : Array Value) (t : TypeId), b = some g → w.heap[g]? = some (.cells cs t (0, 0)) → t = 73 ∨ t = 3) : Kp a w' :=
  h.trans ⟨hg.size, fun g cs t h1 h2 h3 => (hg.block g (Array.getElem?_eq_some_iff.1 h3).1 fun e => by rcases hb g cs t e.symm h3 with h | h; exact h1 h; exact h2 h).trans h3⟩
theorem Kp.imap {b N : Nat} {f : Nat → Option Nat} (h : Kp a w) (hg : w.grownBy w' (some b)) (hm : IMap w b N f) : Kp a w' :=
  h.grown hg fun g cs t e hc => by
    injection e with e
    subst e
    obtain ⟨es, ck, ho⟩ := hm.obj
    rw [ho] at hc; cases hc
theorem Kp.bmap {b N : Nat} {f : Nat → Option Unit} (h : Kp a w) (hg : w.grownBy w' (some b)) (hm : BMap w b N f) : Kp a w' :=
  h.grown hg fun g cs t e hc => by
    injection e with e
    subst e
    obtain ⟨es, ck, ho⟩ := hm.obj
    rw [ho] at hc; cases hc
theorem Kp.own {base size n : Nat} {v : Value} {xs : List Value} (h : Kp a w) (hg : w.grownBy w' v.ownBlock) (ho : w.ownsRow base 3 size v n xs) : Kp a w' :=
  h.grown hg fun g cs t e hc => by
    rcases ho.2 with ⟨rfl, _⟩ | ⟨g', cap, cur, rfl, _, hh, _⟩
    · cases e
    · have : g' = g := by simpa [Value.ownBlock] using e
      subst this
      rw [hh] at hc
      injection hc with hc
      injection hc with _ ht
      exact .inr ht.symm
theorem Kp.put {g : Nat} {cs : List Value} (h : Kp a w) (hh : Holds w g 73 cs) (i : Nat) (u : Value) : Kp a (w.setCell ⟨g, i, none⟩ u) :=
  h.trans ⟨by simp [World.setCell], fun g' cs' t h1 h2 h3 => (Below.heap_setCell w ⟨g, i, none⟩ u g' (by
    rintro rfl
    unfold Holds at hh
    rw [hh] at h3
    injection h3 with h3
    injection h3 with _ ht
    exact h1 ht.symm)).trans h3⟩
theorem Kp.owns {base size n : Nat} {e : TypeId} {v : Value} {xs : List Value} (h : Kp w w') (ho : w.ownsRow base e size v n xs) (h1 : e ≠ 73) (h2 : e ≠ 3) : w'.ownsRow base e size v n xs := by
  refine ⟨ho.1, ?_⟩
  rcases ho.2 with h0 | ⟨g, cap, cur, rfl, hb, hgg, rest⟩
  · exact .inl h0
  · exact .inr ⟨g, cap, cur, rfl, hb, h.row g cur e h1 h2 hgg, rest⟩
end

theorem ownBlock_ne_map {w : World} {base size n b : Nat} {e : TypeId} {v : Value} {xs : List Value} (h : w.ownsRow base e size v n xs) (hb : ∃ es clock, w.heap[b]? = some (.map es clock)) : v.ownBlock ≠ some b := by
  obtain ⟨es, ck, ho⟩ := hb
  rcases h.2 with ⟨rfl, _⟩ | ⟨g', cap, cur, rfl, _, hh, _⟩
  · simp [Value.ownBlock]
  · intro he
    have : g' = b := by simpa [Value.ownBlock] using he
    subst this
    rw [ho] at hh
    cases hh
theorem Holds.ne_map {w : World} {g b : Nat} {t : TypeId} {cs : List Value} (h : Holds w g t cs) (hb : ∃ es clock, w.heap[b]? = some (.map es clock)) : g ≠ b := by
  obtain ⟨es, ck, ho⟩ := hb
  rintro rfl
  unfold Holds at h
  rw [ho] at h
  cases h
theorem imap_ne_bmap {w : World} {b c N : Nat} {f : Nat → Option Nat} {g : Nat → Option Unit} (h : IMap w b N f) (k : BMap w c N g) (hcb : c ≠ b) : b ≠ c := fun e => hcb e.symm

def lowF (s : TSt) (x : Nat) : Option Nat := if (s.index x).isSome then some (s.low x) else none
def onF (s : TSt) (x : Nat) : Option Unit := if x ∈ s.stack then some () else none

/-- The search's memory: block T, its maps and its stack; all of it from block β on. -/
structure TMem (β T mi ml mo N S : Nat) (fv vs : Value) (w : World) (fi fl : Nat → Option Nat) (fo : Nat → Option Unit) (st : List Nat) : Prop where
  t : Holds w T 73 [fv, .int .u64 (S : Int), .map (some mi), .map (some ml), .map (some mo), vs]
  bt : β ≤ T ∧ β ≤ mi ∧ β ≤ ml ∧ β ≤ mo ∧ mi ≠ ml ∧ mi ≠ mo ∧ ml ≠ mo
  index : IMap w mi N fi
  low : IMap w ml N fl
  on : BMap w mo N fo
  stack : w.ownsRow β 3 1 vs st.length (nats st)
section
variable {β T mi ml mo N S : Nat} {fv vs : Value} {w w' : World} {fi fl : Nat → Option Nat} {fo : Nat → Option Unit} {st : List Nat}
theorem TMem.below (h : TMem β T mi ml mo N S fv vs w fi fl fo st) (hb : Below w.heap.size w w') : TMem β T mi ml mo N S fv vs w' fi fl fo st :=
  ⟨h.t.belowAll hb, h.bt, h.index.of_eq (hb.block _ h.index.lt), h.low.of_eq (hb.block _ h.low.lt), h.on.of_eq (hb.block _ h.on.lt), (Fr.of_below hb (fun _ => False)).owns h.stack (fun _ _ h => h)⟩
theorem TMem.drew (h : TMem β T mi ml mo N S fv vs w fi fl fo st) : TMem β T mi ml mo N S fv vs w.drew fi fl fo st := ⟨h.t, h.bt, h.index, h.low, h.on, h.stack⟩
theorem TMem.drewN (h : TMem β T mi ml mo N S fv vs w fi fl fo st) (n : Nat) : TMem β T mi ml mo N S fv vs (w.drewN n) fi fl fo st := ⟨h.t, h.bt, h.index, h.low, h.on, h.stack⟩
theorem TMem.putI (h : TMem β T mi ml mo N S fv vs w fi fl fo st) {fi' : Nat → Option Nat} (hg : w.grownBy w' (some mi)) (hI : IMap w' mi N fi') : TMem β T mi ml mo N S fv vs w' fi' fl fo st := by
  obtain ⟨b1, b2, b3, b4, m1, m2, m3⟩ := h.bt
  exact ⟨h.t.of_eq (hg.block _ h.t.lt (fun e => h.t.ne_map h.index.obj (Option.some.inj e))), h.bt, hI, h.low.of_eq (hg.block _ h.low.lt (fun e => m1 (Option.some.inj e).symm)), h.on.of_eq (hg.block _ h.on.lt (fun e => m2 (Option.some.inj e).symm)), h.stack.kept hg (.inr (ownBlock_ne_map h.stack h.index.obj))⟩
theorem TMem.putL (h : TMem β T mi ml mo N S fv vs w fi fl fo st) {fl' : Nat → Option Nat} (hg : w.grownBy w' (some ml)) (hI : IMap w' ml N fl') : TMem β T mi ml mo N S fv vs w' fi fl' fo st := by
  obtain ⟨b1, b2, b3, b4, m1, m2, m3⟩ := h.bt
  exact ⟨h.t.of_eq (hg.block _ h.t.lt (fun e => h.t.ne_map h.low.obj (Option.some.inj e))), h.bt, h.index.of_eq (hg.block _ h.index.lt (fun e => m1 (Option.some.inj e))), hI, h.on.of_eq (hg.block _ h.on.lt (fun e => m3 (Option.some.inj e).symm)), h.stack.kept hg (.inr (ownBlock_ne_map h.stack h.low.obj))⟩
theorem TMem.putO (h : TMem β T mi ml mo N S fv vs w fi fl fo st) {fo' : Nat → Option Unit} (hg : w.grownBy w' (some mo)) (hI : BMap w' mo N fo') : TMem β T mi ml mo N S fv vs w' fi fl fo' st := by
  obtain ⟨b1, b2, b3, b4, m1, m2, m3⟩ := h.bt
  exact ⟨h.t.of_eq (hg.block _ h.t.lt (fun e => h.t.ne_map h.on.obj (Option.some.inj e))), h.bt, h.index.of_eq (hg.block _ h.index.lt (fun e => m2 (Option.some.inj e))), h.low.of_eq (hg.block _ h.low.lt (fun e => m3 (Option.some.inj e))), hI, h.stack.kept hg (.inr (ownBlock_ne_map h.stack h.on.obj))⟩
/-- The stack's row has grown, and is laid into the block. -/
theorem TMem.putS (h : TMem β T mi ml mo N S fv vs w fi fl fo st) {vs' : Value} {st' : List Nat} (hg : w.grownBy w' vs.ownBlock) (hS : w'.ownsRow β 3 1 vs' st'.length (nats st')) :
    TMem β T mi ml mo N S fv vs' (w'.setCell ⟨T, 5, none⟩ vs') fi fl fo st' := by
  have hr : ∀ {b : Nat}, (∃ es clock, w.heap[b]? = some (.map es clock)) → (some b : Option Nat) ≠ vs.ownBlock := fun hb e => ownBlock_ne_map h.stack hb e.symm
  have hT : Holds w' T 73 _ := h.t.of_eq (hg.block _ h.t.lt (fun e => owns_ne_holds h.stack h.t (by decide) e.symm))
  have hI : IMap w' mi N fi := h.index.of_eq (hg.block _ h.index.lt (hr h.index.obj))
  have hL : IMap w' ml N fl := h.low.of_eq (hg.block _ h.low.lt (hr h.low.obj))
  have hO : BMap w' mo N fo := h.on.of_eq (hg.block _ h.on.lt (hr h.on.obj))
  refine ⟨(hT.put 5 vs').to rfl, h.bt, hI.of_eq ?_, hL.of_eq ?_, hO.of_eq ?_, own_put hS hT (by decide)⟩
  · exact Below.heap_setCell _ _ _ _ (hT.ne_map hI.obj).symm
  · exact Below.heap_setCell _ _ _ _ (hT.ne_map hL.obj).symm
  · exact Below.heap_setCell _ _ _ _ (hT.ne_map hO.obj).symm
theorem TMem.kp_S (h : TMem β T mi ml mo N S fv vs w fi fl fo st) {vs' : Value} (hg : w.grownBy w' vs.ownBlock) : Kp w (w'.setCell ⟨T, 5, none⟩ vs') := by
  have hT : Holds w' T 73 _ := h.t.of_eq (hg.block _ h.t.lt (fun e => owns_ne_holds h.stack h.t (by decide) e.symm))
  exact ((Kp.refl w).own hg h.stack).put hT 5 vs'
end
theorem TMem.far {β T mi ml mo N S : Nat} {fv vs : Value} {w : World} {fi fl : Nat → Option Nat} {fo : Nat → Option Unit} {st : List Nat} (h : TMem β T mi ml mo N S fv vs w fi fl fo st) {R : Nat} {t : TypeId} {cs : List Value} (hR : Holds w R t cs) (h1 : t ≠ 73) (h2 : t ≠ 3) (i : Nat) (u : Value) :
    TMem β T mi ml mo N S fv vs (w.setCell ⟨R, i, none⟩ u) fi fl fo st := by
  refine ⟨h.t.far (p := ⟨R, i, none⟩) (h.t.ne_of_type hR (Ne.symm h1)) u, h.bt, h.index.of_eq ?_, h.low.of_eq ?_, h.on.of_eq ?_, own_put h.stack hR (Ne.symm h2)⟩
  · exact Below.heap_setCell _ _ _ _ (hR.ne_map h.index.obj).symm
  · exact Below.heap_setCell _ _ _ _ (hR.ne_map h.low.obj).symm
  · exact Below.heap_setCell _ _ _ _ (hR.ne_map h.on.obj).symm
theorem Kp.putNew {a w : World} (h : Kp a w) {p : Addr} (hp : a.heap.size ≤ p.block) (u : Value) : Kp a (w.setCell p u) :=
  ⟨by simpa [World.setCell] using h.size, fun g cs t h1 h2 h3 => (Below.heap_setCell w p u g (by
    rintro rfl
    have := (Array.getElem?_eq_some_iff.1 h3).1
    omega)).trans (h.row g cs t h1 h2 h3)⟩
/-- What is known of its numbers. -/
structure TPure (N : Nat) (s : TSt) : Prop where
  cnt : s.cnt = cntB s.index N
  vis : ∀ x, s.index x ≠ none → x < N
  ilt : ∀ x a, s.index x = some a → a < N ∧ s.low x < N
  slen : s.stack.length ≤ s.cnt
  sub : ∀ x ∈ s.stack, s.index x ≠ none
def TM (β T mi ml mo N S : Nat) (fv vs : Value) (w : World) (s : TSt) : Prop := TMem β T mi ml mo N S fv vs w s.index (lowF s) (onF s) s.stack.reverse ∧ TPure N s
theorem TPure.enter {N x : Nat} {s : TSt} (h : TPure N s) (hx : x < N) (hn : s.index x = none) : TPure N (s.enter x) := by
  have hlt := cntB_lt hx hn
  have hc := h.cnt
  refine ⟨?_, ?_, ?_, ?_, ?_⟩
  · show s.cnt + 1 = cntB (upd s.index x (some s.cnt)) N
    rw [cntB_new hx hn, hc]
  · intro y hy
    by_cases e : y = x
    · rw [e]; exact hx
    · exact h.vis y (by simpa [TSt.enter, upd, e] using hy)
  · intro y a hy
    by_cases e : y = x
    · subst e
      have h1 : a = s.cnt := by simpa [TSt.enter, upd] using hy.symm
      have h2 : (s.enter y).low y = s.cnt := by simp [TSt.enter, upd]
      rw [h1, h2, hc]
      exact ⟨hlt, hlt⟩
    · have h1 : (s.enter x).low y = s.low y := by simp [TSt.enter, upd, e]
      rw [h1]
      exact h.ilt y a (by simpa [TSt.enter, upd, e] using hy)
  · show (x :: s.stack).length ≤ s.cnt + 1
    have := h.slen
    simp; exact this
  · intro y hy
    by_cases e : y = x
    · simp [TSt.enter, upd, e]
    · have : y ∈ s.stack := by
        rcases List.mem_cons.1 hy with h | h
        · exact absurd h e
        · exact h
      simpa [TSt.enter, upd, e] using h.sub y this
theorem nats_snoc (xs : List Nat) (x : Nat) : nats xs ++ [.int .i64 (x : Int)] = nats (xs ++ [x]) := by simp [nats]

theorem lowF_enter (s : TSt) (x : Nat) : lowF (s.enter x) = upd (lowF s) x (some s.cnt) := by
  funext y
  unfold lowF TSt.enter upd
  by_cases h : y = x <;> simp [h]
theorem onF_enter (s : TSt) (x : Nat) : onF (s.enter x) = upd (onF s) x (some ()) := by
  funext y
  unfold onF TSt.enter upd
  by_cases h : y = x <;> simp [h]

/-! ### where a head only reads -/
section
variable {ops : Array Oper} {w : World} {Q : Act → Prop} {o : Oper} {rest : List Oper} {a : Act}
theorem wpStill_plain {P : Program} (hg : o.guard = none) (h : ∀ K : Act → Prop, (∀ a, wpStill P ops w Q rest a → K a) → o.still P a w K) : wpStill P ops w Q (o :: rest) a :=
  wpStill_step fun K hK => by simp only [Region.wanted, hg, if_true]; exact h K hK
theorem wpStill_look {P : Program} (hg : o.guard = none) (m x : Operand) {t : TypeId} {c : Bool} (hop : o.op = Op.lookup t m x c) {v : Value} (hrun : (Instr.lookup t (a.eval m) (a.eval x) c).run P w = .ok v w)
    (h : wpStill P ops w Q rest (a.put o.dst v)) : wpStill P ops w Q (o :: rest) a := by
  refine wpStill_plain hg fun K hK => ?_
  unfold Oper.still
  simp [execOp, hop, hrun, Oper.stillUpon]
  exact hK _ h
variable {b N : Nat} {f : Nat → Option Nat}
theorem IMap.run_get (hown : IMap w b N f) {y : Nat} (hy : y < N) (hN : N < 4611686018427387904) : (Instr.lookup 70 (.map (some b)) (.int .i64 (y : Int)) false).run Tryd.prog w = .ok (.int .i64 (((f y).getD 0 : Nat) : Int)) w := by
  obtain ⟨D, hD, hs, hk, hv⟩ := hown
  obtain ⟨c, hrun, hat, _⟩ := hD.lookup_int (int_keyed Tryd.underlying3) Tryd.underlying70 Tryd.underlying3 (zero_int w) (keyOf_int_mk Tryd.underlying3 (lit_wf (show y < _ by omega)))
  rw [hrun]
  cases hf : f y with
  | none =>
    have := Maps.atKey_of_not_has (D := D) (k := kI y) (by rw [(hv y hy).1, hf]; rfl) (.lit (.int .i64 0))
    have e := this.symm.trans hat
    have e2 := (Lit.int.inj (DataW.lit.inj e)).2
    rw [← e2]; rfl
  | some v =>
    have e := ((hv y hy).2 v hf (.lit (.int .i64 0))).symm.trans hat
    have e2 := (Lit.int.inj (DataW.lit.inj e)).2
    rw [← e2]; rfl
theorem IMap.run_len (hown : IMap w b N f) (ty : TypeId) : (Builtin.len_ #[70] ty #[.map (some b)]).run Tryd.prog w = .ok (.int .i64 ((cntB f N : Nat) : Int)) w := by
  obtain ⟨D, hD, hs, hk, hv⟩ := hown
  rw [hD.len Tryd.underlying70 ty, hs]
theorem still_iget (hg : o.guard = none) (m x : Operand) (hop : o.op = Op.lookup 70 m x false) (hm : a.eval m = .map (some b)) (hown : IMap w b N f) (y : Nat) (hx : a.eval x = .int .i64 (y : Int)) (hy : y < N) (hN : N < 4611686018427387904) (c : Nat) (hc : (f y).getD 0 = c)
    (h : wpStill Tryd.prog ops w Q rest (a.put o.dst (.int .i64 (c : Int)))) : wpStill Tryd.prog ops w Q (o :: rest) a :=
  wpStill_look hg m x hop (by rw [hm, hx, ← hc]; exact hown.run_get hy hN) h
theorem still_ilen (hg : o.guard = none) (m : Operand) (hop : o.op = Op.call { callee := Callee.builtin Builtin.len, args := #[m], argTypes := #[70] }) (hm : a.eval m = .map (some b)) (hown : IMap w b N f)
    (h : wpStill Tryd.prog ops w Q rest (a.put o.dst (.int .i64 ((cntB f N : Nat) : Int)))) : wpStill Tryd.prog ops w Q (o :: rest) a := by
  refine wpStill_plain hg fun K hK => ?_
  unfold Oper.still
  simp [execOp, hop, resolve, invoke, builtin, hm, hown.run_len o.type, Oper.stillUpon]
  exact hK _ h
end
end Go.Proofs.YtelanndleinabaaDoor
