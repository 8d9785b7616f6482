/- Words for maps from numbers to truth. (turned out of wip/gen) -/
import Derived.Test.YtpednhcfkjjcpaaNa
import Derived.Maps.RangeWalk
import Derived.Maps.OwnOps
import Derived.Maps.OwnSet
import Derived.Maps.Ext
namespace Go.Proofs.Ytpednhcfkjjcpaa.Mp
open Go.RowKit
open Go.Maps (Keyed int_keyed keyOf_int_mk)
set_option linter.unusedVariables false
set_option linter.unusedSimpArgs false

def upd {A : Type} (f : Nat → A) (x : Nat) (v : A) : Nat → A := fun y => if y = x then v else f y
theorem upd_same {A : Type} (f : Nat → A) (x : Nat) (v : A) : upd f x v x = v := by simp [upd]
theorem upd_other {A : Type} (f : Nat → A) {x y : Nat} (v : A) (h : y ≠ x) : upd f x v y = f y := by simp [upd, h]
/-- How many of the numbers below N are known. -/
def cntB {A : Type} (f : Nat → Option A) : Nat → Nat
  | 0 => 0
  | n + 1 => cntB f n + (if (f n).isSome then 1 else 0)
section
variable {A : Type} {f : Nat → Option A}
theorem cntB_le (f : Nat → Option A) : ∀ n, cntB f n ≤ n
  | 0 => Nat.le_refl _
  | n + 1 => by
    have := cntB_le f n
    unfold cntB
    split <;> omega
theorem cntB_far {x : Nat} {v : Option A} : ∀ n, n ≤ x → cntB (upd f x v) n = cntB f n
  | 0, _ => rfl
  | n + 1, h => by
    unfold cntB
    rw [cntB_far n (by omega), upd_other f v (show n ≠ x by omega)]
theorem cntB_upd {x : Nat} {v : Option A} : ∀ n, x < n → cntB (upd f x v) n + (if (f x).isSome then 1 else 0) = cntB f n + (if v.isSome then 1 else 0)
  | 0, h => by omega
  | n + 1, h => by
    unfold cntB
    by_cases e : x = n
    · subst e
      rw [cntB_far x (Nat.le_refl _), upd_same]
      omega
    · have := cntB_upd (v := v) n (show x < n by omega)
      rw [upd_other f v (show n ≠ x by omega)]
      omega
theorem cntB_new {x : Nat} {c : A} {n : Nat} (h : x < n) (hf : f x = none) : cntB (upd f x (some c)) n = cntB f n + 1 := by
  have := cntB_upd (f := f) (v := some c) n h
  simp [hf] at this
  exact this
theorem cntB_old {x : Nat} {c : A} {n : Nat} (h : x < n) (hf : (f x).isSome = true) : cntB (upd f x (some c)) n = cntB f n := by
  have := cntB_upd (f := f) (v := some c) n h
  simp [hf] at this
  exact this
theorem cntB_lt {x : Nat} : ∀ {n : Nat}, x < n → f x = none → cntB f n < n
  | 0, h, _ => by omega
  | n + 1, h, hf => by
    unfold cntB
    by_cases e : x = n
    · subst e
      have := cntB_le f x
      simp [hf]; omega
    · have := cntB_lt (show x < n by omega) hf
      split <;> omega
theorem cntB_none (n : Nat) : cntB (fun _ => (none : Option A)) n = 0 := by
  induction n with
  | zero => rfl
  | succ n ih => unfold cntB; rw [ih]; rfl
end

def kI (x : Nat) : Lit := .int .i64 (x : Int)
theorem kI_inj {x y : Nat} (h : kI x = kI y) : x = y := by
  unfold kI at h
  injection h with _ h
  omega
theorem kI_ne {x y : Nat} (h : x ≠ y) : kI x ≠ kI y := fun e => h (kI_inj e)
theorem kI_key (x : Nat) : WideAt.IsKeyLit (kI x) := by simp [kI, WideAt.IsKeyLit]
theorem lit_wf {x : Nat} (h : x < 4611686018427387904) : (Lit.int .i64 (x : Int)).wf = true := by
  simp only [Lit.wf, Bool.and_eq_true, decide_eq_true_eq]
  have h1 : IntKind.i64.min = -9223372036854775808 := rfl
  have h2 : IntKind.i64.max = 9223372036854775807 := rfl
  rw [h1, h2]
  omega

/-- Block b is a map from the numbers below N to numbers: f. -/
def IMap (w : World) (b N : Nat) (f : Nat → Option Nat) : Prop :=
  ∃ D : DataW Unit, w.ownsMap Try.prog 3 (plainElem Try.prog 3) b (cntB f N) D ∧ Maps.size D = cntB f N ∧ (∀ k, Maps.has D k = true → ∃ x, x < N ∧ k = kI x) ∧
    ∀ x, x < N → Maps.has D (kI x) = (f x).isSome ∧ ∀ c, f x = some c → ∀ z, D.atKey (kI x) z = .lit (.int .i64 (c : Int))
/-- Block b is a map from the numbers below N to truth: f. -/
def BMap (w : World) (b N : Nat) (f : Nat → Option Unit) : Prop :=
  ∃ D : DataW Unit, w.ownsMap Try.prog 3 (plainElem Try.prog 4) b (cntB f N) D ∧ Maps.size D = cntB f N ∧
    ∀ x, x < N → Maps.has D (kI x) = (f x).isSome ∧ ∀ c, f x = some c → ∀ z, D.atKey (kI x) z = .lit (.bool true)

section
variable {w w' : World} {b N : Nat} {f : Nat → Option Nat} {g : Nat → Option Unit}
theorem ownsMap_tight {H : Type} {P : Program} {k : TypeId} {R : Value → Option (DataW H × List MemPlace)} {n : Nat} {D : DataW H} (h : w.ownsMap P k R b n D) {m : Nat} (hs : Maps.size D = m) : w.ownsMap P k R b m D := by
  obtain ⟨es, clock, hb, F, _, rfl⟩ := h
  refine ⟨es, clock, hb, F, ?_, rfl⟩
  rw [Maps.size_eq, length_sorted] at hs
  simp at hs
  omega
theorem IMap.lt (h : IMap w b N f) : b < w.heap.size := let ⟨_, h, _⟩ := h; h.lt
theorem BMap.lt (h : BMap w b N g) : b < w.heap.size := let ⟨_, h, _⟩ := h; h.lt
theorem IMap.of_eq (h : IMap w b N f) (e : w'.heap[b]? = w.heap[b]?) : IMap w' b N f := by
  obtain ⟨D, ⟨es, clock, hb, r⟩, h2⟩ := h
  exact ⟨D, ⟨es, clock, e.trans hb, r⟩, h2⟩
theorem BMap.of_eq (h : BMap w b N g) (e : w'.heap[b]? = w.heap[b]?) : BMap w' b N g := by
  obtain ⟨D, ⟨es, clock, hb, r⟩, h2⟩ := h
  exact ⟨D, ⟨es, clock, e.trans hb, r⟩, h2⟩
/-- What block b is, if it is a map; so it is no row of cells. -/
theorem IMap.obj (h : IMap w b N f) : ∃ es clock, w.heap[b]? = some (.map es clock) := by
  obtain ⟨D, ⟨es, clock, hb, r⟩, h2⟩ := h
  exact ⟨es, clock, hb⟩
theorem BMap.obj (h : BMap w b N g) : ∃ es clock, w.heap[b]? = some (.map es clock) := by
  obtain ⟨D, ⟨es, clock, hb, r⟩, h2⟩ := h
  exact ⟨es, clock, hb⟩
theorem IMap.new (w : World) (N : Nat) : IMap (w.alloc (.map #[] 0)) w.heap.size N (fun _ => none) := by
  refine ⟨.map [], ?_, ?_, ?_, ?_⟩
  · rw [cntB_none]
    exact World.ownsMap_made w _ _ _
  · rw [cntB_none]; rfl
  · intro k hk; simp [Maps.has] at hk
  · intro x hx
    exact ⟨by simp [Maps.has], fun c h => by cases h⟩
theorem BMap.new (w : World) (N : Nat) : BMap (w.alloc (.map #[] 0)) w.heap.size N (fun _ => none) := by
  refine ⟨.map [], ?_, ?_, ?_⟩
  · rw [cntB_none]
    exact World.ownsMap_made w _ _ _
  · rw [cntB_none]; rfl
  · intro x hx
    exact ⟨by simp [Maps.has], fun c h => by cases h⟩
theorem IMap.put_ {D : DataW Unit} (hD : w.ownsMap Try.prog 3 (plainElem Try.prog 3) b (cntB f N) D) (hs : Maps.size D = cntB f N) (hk : ∀ k, Maps.has D k = true → ∃ x, x < N ∧ k = kI x)
    (hv : ∀ x, x < N → Maps.has D (kI x) = (f x).isSome ∧ ∀ c, f x = some c → ∀ z, D.atKey (kI x) z = .lit (.int .i64 (c : Int))) {x c : Nat} (hx : x < N) {n : Nat}
    (h : w'.ownsMap Try.prog 3 (plainElem Try.prog 3) b n (D.put (kI x) (.lit (.int .i64 (c : Int))))) : IMap w' b N (upd f x (some c)) := by
  have hT := hD.tidy (int_keyed Try.underlying3)
  have hsz : Maps.size (D.put (kI x) (.lit (.int .i64 (c : Int)))) = cntB (upd f x (some c)) N := by
    rw [Maps.size_put hT, (hv x hx).1, hs]
    cases hf : f x with
    | none => rw [cntB_new hx hf]; rfl
    | some v => rw [cntB_old hx (by rw [hf]; rfl)]; rfl
  refine ⟨_, ownsMap_tight h hsz, hsz, ?_, ?_⟩
  · intro k hk'
    by_cases e : k = kI x
    · exact ⟨x, hx, e⟩
    · rw [Maps.has_put_other e] at hk'
      exact hk k hk'
  · intro y hy
    by_cases e : y = x
    · subst e
      rw [upd_same]
      refine ⟨Maps.has_put_same hT.isMap (kI_key y) _, fun c' hc z => ?_⟩
      injection hc with hc
      subst hc
      exact Maps.atKey_put_same hT.isMap (kI_key y) _ z
    · rw [upd_other f _ e, Maps.has_put_other (kI_ne e)]
      refine ⟨(hv y hy).1, fun c' hc z => ?_⟩
      rw [Maps.atKey_put_other (kI_ne e)]
      exact (hv y hy).2 c' hc z
theorem BMap.put_ {D : DataW Unit} (hD : w.ownsMap Try.prog 3 (plainElem Try.prog 4) b (cntB g N) D) (hs : Maps.size D = cntB g N)
    (hv : ∀ x, x < N → Maps.has D (kI x) = (g x).isSome ∧ ∀ c, g x = some c → ∀ z, D.atKey (kI x) z = .lit (.bool true)) {x : Nat} (hx : x < N) {n : Nat}
    (h : w'.ownsMap Try.prog 3 (plainElem Try.prog 4) b n (D.put (kI x) (.lit (.bool true)))) : BMap w' b N (upd g x (some ())) := by
  have hT := hD.tidy (int_keyed Try.underlying3)
  have hsz : Maps.size (D.put (kI x) (.lit (.bool true))) = cntB (upd g x (some ())) N := by
    rw [Maps.size_put hT, (hv x hx).1, hs]
    cases hf : g x with
    | none => rw [cntB_new hx hf]; rfl
    | some v => rw [cntB_old hx (by rw [hf]; rfl)]; rfl
  refine ⟨_, ownsMap_tight h hsz, hsz, ?_⟩
  · intro y hy
    by_cases e : y = x
    · subst e
      rw [upd_same]
      exact ⟨Maps.has_put_same hT.isMap (kI_key y) _, fun c' hc z => Maps.atKey_put_same hT.isMap (kI_key y) _ z⟩
    · rw [upd_other g _ e, Maps.has_put_other (kI_ne e)]
      refine ⟨(hv y hy).1, fun c' hc z => ?_⟩
      rw [Maps.atKey_put_other (kI_ne e)]
      exact (hv y hy).2 c' hc z
theorem BMap.del_ {D : DataW Unit} (hD : w.ownsMap Try.prog 3 (plainElem Try.prog 4) b (cntB g N) D) (hs : Maps.size D = cntB g N)
    (hv : ∀ x, x < N → Maps.has D (kI x) = (g x).isSome ∧ ∀ c, g x = some c → ∀ z, D.atKey (kI x) z = .lit (.bool true)) {x : Nat} (hx : x < N) {n : Nat}
    (h : w'.ownsMap Try.prog 3 (plainElem Try.prog 4) b n (D.del (kI x))) : BMap w' b N (upd g x none) := by
  have hT := hD.tidy (int_keyed Try.underlying3)
  have hsz : Maps.size (D.del (kI x)) = cntB (upd g x none) N := by
    have h1 := Maps.size_del (k := kI x) hT
    have h2 := cntB_upd (f := g) (v := none) N hx
    rw [(hv x hx).1, hs] at h1
    simp at h2
    omega
  refine ⟨_, ownsMap_tight h hsz, hsz, ?_⟩
  · intro y hy
    by_cases e : y = x
    · subst e
      rw [upd_same]
      exact ⟨Maps.has_del_same, fun c' hc => by cases hc⟩
    · rw [upd_other g _ e, Maps.has_del_other (kI_ne e)]
      refine ⟨(hv y hy).1, fun c' hc z => ?_⟩
      rw [Maps.atKey_del_other (kI_ne e)]
      exact (hv y hy).2 c' hc z
end

theorem plainElem_bool_inv {H : Type} {P : Program} {e : TypeId} (he : P.underlying e = some .bool) {v : Value} {z : DataW H × List MemPlace} (h : plainElem P e v = some z) : ∃ x, v = .bool x ∧ z = (.lit (.bool x), []) := by
  unfold plainElem at h
  split at h
  · exact ⟨_, rfl, (Option.some.inj h).symm⟩
  · rename_i hq; rw [he] at hq; cases hq
  · rename_i hq; rw [he] at hq; cases hq
  · cases h
theorem zero_int (w : World) : (zeroValue 3).run Try.prog w = .ok (.int .i64 0) w := by kernel_rfl
theorem zero_bool (w : World) : (zeroValue 4).run Try.prog w = .ok (.bool false) w := by kernel_rfl

/-! ### at the operation -/
section
variable (w : World) {ops : Array Oper} {rest : List Oper} {o : Oper} {a : Act} {Q : Exit → Act → World → Prop} {b N : Nat} {f : Nat → Option Nat} {g : Nat → Option Unit}

theorem wpList_bget (hg : o.guard = none) (m x : Operand) (hop : o.op = Op.lookup 61 m x false) (hm : a.eval m = .map (some b)) (hown : BMap w b N g) (y : Nat) (hx : a.eval x = .int .i64 (y : Int)) (hy : y < N) (hN : N < 4611686018427387904)
    (hK : wpList Try.prog ops Q rest (a.put o.dst (.bool (g y).isSome)) w) : wpList Try.prog ops Q (o :: rest) a w := by
  obtain ⟨D, hD, hs, hv⟩ := hown
  refine wpList_plain hg fun K' hK' => ?_
  obtain ⟨v, ps, hrun, hRv⟩ := hD.lookup (e := 4) (int_keyed Try.underlying3) Try.underlying61 (z := .bool false) (zero_bool w) (plainElem_bool Try.underlying4 false) (keyOf_int_mk Try.underlying3 (lit_wf (show y < _ by omega)))
  obtain ⟨q, rfl, hz⟩ := plainElem_bool_inv Try.underlying4 hRv
  have hq : q = (g y).isSome := by
    cases hf : g y with
    | none =>
      have := Maps.atKey_of_not_has (D := D) (k := kI y) (by rw [(hv y hy).1, hf]; rfl) (.lit (.bool false))
      have e := this.symm.trans (congrArg Prod.fst hz)
      exact (Lit.bool.inj (DataW.lit.inj e)).symm
    | some c =>
      have := (hv y hy).2 c hf (.lit (.bool false))
      have e := this.symm.trans (congrArg Prod.fst hz)
      exact (Lit.bool.inj (DataW.lit.inj e)).symm
  subst hq
  unfold Oper.wp
  simp [execOp, hop, hm, hx, hrun, Result.andThen]
  exact hK' _ _ hK

theorem wpList_bput (hg : o.guard = none) (m x v : Operand) (hop : o.op = Op.mapUpdate 61 m x v) (hm : a.eval m = .map (some b)) (hown : BMap w b N g) (y : Nat) (hx : a.eval x = .int .i64 (y : Int)) (hv : a.eval v = .bool true) (hy : y < N) (hN : N < 4611686018427387904)
    (hK : ∀ w', BMap w' b N (upd g y (some ())) → w.grownBy w' (some b) → wpList Try.prog ops Q rest (a.put o.dst undef) w') : wpList Try.prog ops Q (o :: rest) a w := by
  obtain ⟨D, hD, hs, hvv⟩ := hown
  have hcl := cntB_le g N
  refine wpList_mapUpdate_own w hg m x v 61 hop 3 4 (int_keyed Try.underlying3) Try.underlying61 _ b _ D hm hD (by unfold maxLen; omega) _ _ (kI y) hx hv (keyOf_int_mk Try.underlying3 (lit_wf (by omega))) (.lit (.bool true)) [] (plainElem_bool Try.underlying4 true) ?_
  intro w' h1 h2
  exact hK w' (BMap.put_ hD hs hvv hy h1) h2

theorem wpList_bdel (hg : o.guard = none) (m x : Operand) (hop : o.op = Op.call { callee := Callee.builtin Builtin.delete, args := #[m, x], argTypes := #[61, 3] }) (hm : a.eval m = .map (some b)) (hown : BMap w b N g) (y : Nat) (hx : a.eval x = .int .i64 (y : Int)) (hy : y < N) (hN : N < 4611686018427387904)
    (hK : ∀ w', BMap w' b N (upd g y none) → w.grownBy w' (some b) → wpList Try.prog ops Q rest (a.put o.dst (.tuple #[])) w') : wpList Try.prog ops Q (o :: rest) a w := by
  obtain ⟨D, hD, hs, hvv⟩ := hown
  refine wpList_delete_own w hg m x 61 3 hop 4 (int_keyed Try.underlying3) Try.underlying61 _ b _ D hm hD _ (kI y) hx (keyOf_int_mk Try.underlying3 (lit_wf (by omega))) ?_
  intro w' h1 h2
  exact hK w' (BMap.del_ hD hs hvv hy h1) h2.grown
end
end Go.Proofs.Ytpednhcfkjjcpaa.Mp
