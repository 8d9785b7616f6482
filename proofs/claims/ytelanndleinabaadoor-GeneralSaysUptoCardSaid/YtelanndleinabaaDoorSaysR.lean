/- From which places a state of an alternating automaton has an accepting run; plain. -/
import Derived.Test.YtelanndleinabaaDoorFormP
namespace Go.Proofs.YtelanndleinabaaDoor
open Go.RowKit
set_option linter.unusedVariables false

theorem pigeon {M : Nat} (f : Nat → Nat) (h : ∀ k, k ≤ M → f k < M) : ∃ a b, a < b ∧ b ≤ M ∧ f a = f b := by
  apply Classical.byContradiction
  intro hno
  have hd : ((List.range (M + 1)).map f).Nodup := by
    unfold List.Nodup
    rw [List.pairwise_map]
    refine List.pairwise_lt_range.imp_of_mem fun {i j} hi hj hij e => hno ⟨i, j, hij, ?_, e⟩
    have := List.mem_range.1 hj
    omega
  have := nodup_sub_len _ (List.range M) hd fun x hx => by
    obtain ⟨k, hk, rfl⟩ := List.mem_map.1 hx
    exact List.mem_range.2 (h k (by have := List.mem_range.1 hk; omega))
  simp at this
  omega

/-! A walk along places. -/
def it (nxt : Nat → Nat) : Nat → Nat → Nat
  | 0, j => j
  | k + 1, j => it nxt k (nxt j)
theorem it_succ (nxt : Nat → Nat) : ∀ k j, it nxt (k + 1) j = nxt (it nxt k j)
  | 0, j => rfl
  | k + 1, j => by
    show it nxt (k + 1) (nxt j) = _
    rw [it_succ nxt k (nxt j)]
    rfl
theorem it_lt {nxt : Nat → Nat} {L : Nat} (h : ∀ j, j < L → nxt j < L) : ∀ k j, j < L → it nxt k j < L
  | 0, j, hj => hj
  | k + 1, j, hj => it_lt h k _ (h j hj)
theorem it_add (nxt : Nat → Nat) (j : Nat) : ∀ k m, it nxt (m + k) j = it nxt k (it nxt m j)
  | 0, m => rfl
  | k + 1, m => by rw [← Nat.add_assoc, it_succ, it_add nxt j k m, ← it_succ nxt k]
theorem it_small {nxt : Nat → Nat} {L : Nat} (h : ∀ j, j < L → nxt j < L) {j : Nat} (hj : j < L) : ∀ k, ∃ k', k' < L ∧ it nxt k j = it nxt k' j
  | 0 => ⟨0, by omega, rfl⟩
  | k + 1 => by
    obtain ⟨k', hk, e⟩ := it_small h hj k
    by_cases hl : k' + 1 < L
    · exact ⟨k' + 1, hl, by rw [it_succ, it_succ, e]⟩
    · obtain ⟨a, b, hab, hb, he⟩ := pigeon (M := L) (fun k => it nxt k j) (fun k _ => it_lt h k j hj)
      have hL : k' + 1 = L := by omega
      refine ⟨a + (L - b), by omega, ?_⟩
      have e1 : it nxt (k + 1) j = it nxt L j := by rw [it_succ, e, ← it_succ nxt k', hL]
      have e2 : it nxt L j = it nxt (L - b) (it nxt b j) := by rw [← it_add]; congr 1; omega
      have he' : it nxt a j = it nxt b j := he
      rw [e1, e2, it_add nxt j (L - b) a, he']
def runGo (lv st : Nat → Bool) (nxt : Nat → Nat) (fin : Bool) : Nat → Nat → Bool
  | 0, j => lv j || !fin
  | f + 1, j => lv j || (st j && runGo lv st nxt fin f (nxt j))
section
variable {lv st : Nat → Bool} {nxt : Nat → Nat} {fin : Bool}
theorem runGo_on : ∀ f j, (∀ k, k < f → lv (it nxt k j) = false ∧ st (it nxt k j) = true) → runGo lv st nxt fin f j = (lv (it nxt f j) || !fin)
  | 0, j, _ => rfl
  | f + 1, j, h => by
    unfold runGo
    have h0 := h 0 (by omega)
    have h0' : lv j = false ∧ st j = true := h0
    rw [h0'.1, h0'.2, runGo_on f (nxt j) (fun k hk => h (k + 1) (by omega))]
    rfl
theorem runGo_off : ∀ f j, (∃ k, k < f ∧ (lv (it nxt k j) = true ∨ st (it nxt k j) = false)) → runGo lv st nxt fin (f + 1) j = runGo lv st nxt fin f j
  | 0, j, h => by obtain ⟨k, hk, _⟩ := h; omega
  | f + 1, j, ⟨k, hk, h⟩ => by
    unfold runGo
    cases k with
    | zero =>
      have h' : lv j = true ∨ st j = false := h
      rcases h' with h' | h' <;> simp [h']
    | succ k =>
      rw [runGo_off f (nxt j) ⟨k, by omega, h⟩]
theorem runGo_stable {L : Nat} (h : ∀ j, j < L → nxt j < L) {j : Nat} (hj : j < L) : runGo lv st nxt fin (L + 1) j = runGo lv st nxt fin L j := by
  by_cases hs : ∃ k, k < L ∧ (lv (it nxt k j) = true ∨ st (it nxt k j) = false)
  · exact runGo_off L j hs
  · have hon : ∀ k, k < L → lv (it nxt k j) = false ∧ st (it nxt k j) = true := fun k hk => by
      constructor
      · cases hv : lv (it nxt k j) with
        | false => rfl
        | true => exact absurd ⟨k, hk, .inl hv⟩ hs
      · cases hv : st (it nxt k j) with
        | true => rfl
        | false => exact absurd ⟨k, hk, .inr hv⟩ hs
    have hall : ∀ k, lv (it nxt k j) = false ∧ st (it nxt k j) = true := fun k => by
      obtain ⟨k', hk, e⟩ := it_small h hj k
      rw [e]; exact hon k' hk
    rw [runGo_on L j hon, runGo_on (L + 1) j (fun k _ => hall k), (hall L).1, (hall (L + 1)).1]
/-- What runs says, one step on. -/
theorem runGo_unfold {L : Nat} (h : ∀ j, j < L → nxt j < L) {j : Nat} (hj : j < L) : runGo lv st nxt fin (L + 1) j = (lv j || (st j && runGo lv st nxt fin (L + 1) (nxt j))) := by
  rw [runGo_stable h (h j hj)]
  rfl
/-- Where a final state runs, it leaves somewhere. -/
theorem runGo_leaves : ∀ f j, fin = true → runGo lv st nxt fin f j = true → ∃ k, lv (it nxt k j) = true
  | 0, j, hf, h => ⟨0, by unfold runGo at h; rw [hf] at h; show lv j = true; simpa using h⟩
  | f + 1, j, hf, h => by
    unfold runGo at h
    rw [Bool.or_eq_true, Bool.and_eq_true] at h
    rcases h with h | ⟨_, h⟩
    · exact ⟨0, h⟩
    · obtain ⟨k, hk⟩ := runGo_leaves f (nxt j) hf h
      exact ⟨k + 1, hk⟩
/-- A state that isn't final runs where it stays for ever. -/
theorem runGo_stays (T : Nat → Prop) (hT : ∀ j, T j → st j = true ∧ T (nxt j)) : ∀ f j, fin = false → T j → runGo lv st nxt fin f j = true
  | 0, j, hf, _ => by unfold runGo; rw [hf]; simp
  | f + 1, j, hf, h => by
    unfold runGo
    obtain ⟨h1, h2⟩ := hT j h
    rw [h1, runGo_stays T hT f (nxt j) hf h2]
    simp
end

/-! The states' runs along a word. -/
def plN (l : Las) : Nat := l.pre.length + l.loop.length
def ltr (l : Las) (i : Nat) : Nat := (l.pre ++ l.loop).getD i 0
def nx (l : Las) (i : Nat) : Nat := nextPl l.pre.length (l.pre.length + l.loop.length) i
theorem nx_lt {l : Las} (h : lasCode l = 0) {i : Nat} (hi : i < plN l) : nx l i < plN l := by
  unfold lasCode at h
  unfold nx nextPl plN at *
  split at h
  · cases h
  · split <;> omega
def fitM (run : Nat → Nat → Bool) (l : Las) (n i : Nat) (own : Bool) (m : AMv) : Bool :=
  hasB m.yes m.no (ltr l i) && m.to.all (fun t => t == (n : Int) || run t.toNat (nx l i)) && (m.to.any (fun t => t == (n : Int)) == own)
def stepB (run : Nat → Nat → Bool) (sts : List ASt) (l : Las) (n i : Nat) (own : Bool) : Bool := (movesOf sts (n : Int)).any (fitM run l n i own)
def finOf (sts : List ASt) (n : Nat) : Bool := (sts.getD n (false, [])).1
def rowOf (run : Nat → Nat → Bool) (sts : List ASt) (l : Las) (n i : Nat) : Bool := runGo (fun j => stepB run sts l n j false) (fun j => stepB run sts l n j true) (nx l) (finOf sts n) (plN l + 1) i
def runsUp (sts : List ASt) (l : Las) : Nat → Nat → Nat → Bool
  | 0 => fun _ _ => false
  | n + 1 => fun s i => if s = n then rowOf (runsUp sts l n) sts l n i else runsUp sts l n s i
def runB (sts : List ASt) (l : Las) (s i : Nat) : Bool := runsUp sts l (s + 1) s i
theorem runsUp_eq (sts : List ASt) (l : Las) (s i : Nat) : ∀ n, s < n → runsUp sts l n s i = runB sts l s i
  | 0, h => by omega
  | n + 1, h => by
    by_cases e : s = n
    · subst e; rfl
    · show (if s = n then _ else runsUp sts l n s i) = _
      rw [if_neg e]
      exact runsUp_eq sts l s i n (by omega)
theorem fitM_congr {run run' : Nat → Nat → Bool} {l : Las} {n i : Nat} {own : Bool} {m : AMv} (h : ∀ t ∈ m.to, t ≠ (n : Int) → run t.toNat (nx l i) = run' t.toNat (nx l i)) : fitM run l n i own m = fitM run' l n i own m := by
  unfold fitM
  have : m.to.all (fun t => t == (n : Int) || run t.toNat (nx l i)) = m.to.all (fun t => t == (n : Int) || run' t.toNat (nx l i)) := by
    rw [Bool.eq_iff_iff, List.all_eq_true, List.all_eq_true]
    constructor <;> intro hh t ht <;> have h1 := hh t ht <;> by_cases e : t = (n : Int)
    · simp [e]
    · rw [← h t ht e]; exact h1
    · simp [e]
    · rw [h t ht e]; exact h1
  rw [this]
/-- Targets of a state are not above it. -/
def ToOk (sts : List ASt) : Prop := ∀ n : Nat, ∀ m ∈ movesOf sts (n : Int), ∀ t ∈ m.to, 0 ≤ t ∧ t ≤ (n : Int)
theorem altOk_toOk {a : Alt} (h : altOk a = true) : ToOk a.states := by
  intro n m hm t ht
  unfold movesOf at hm
  rw [Int.toNat_natCast, List.getD_eq_getElem?_getD] at hm
  cases hs : a.states[n]? with
  | none => rw [hs] at hm; cases hm
  | some x =>
    rw [hs, Option.getD_some] at hm
    unfold altOk at h
    simp only [Bool.and_eq_true] at h
    have hk := stsOk_at h.1.2 n x hs
    have := List.all_eq_true.1 hk m hm
    unfold stOk at this
    rw [Bool.and_eq_true] at this
    have := (setL_setN (N := n + 1) this.2 (by omega)).2 t ht
    omega
theorem stepB_congr {run run' : Nat → Nat → Bool} {sts : List ASt} {l : Las} {n i : Nat} {own : Bool} (ht : ToOk sts) (h : ∀ s, s < n → run s (nx l i) = run' s (nx l i)) : stepB run sts l n i own = stepB run' sts l n i own := by
  unfold stepB
  rw [Bool.eq_iff_iff, List.any_eq_true, List.any_eq_true]
  have e : ∀ m ∈ movesOf sts (n : Int), fitM run l n i own m = fitM run' l n i own m := fun m hm => fitM_congr fun t h1 h2 => h _ (by have := ht n m hm t h1; omega)
  constructor
  · rintro ⟨m, hm, hf⟩; exact ⟨m, hm, by rw [← e m hm]; exact hf⟩
  · rintro ⟨m, hm, hf⟩; exact ⟨m, hm, by rw [e m hm]; exact hf⟩
section
variable {sts : List ASt} {l : Las}
theorem runB_row (ht : ToOk sts) (s i : Nat) : runB sts l s i = rowOf (runB sts l) sts l s i := by
  have e : runB sts l s i = rowOf (runsUp sts l s) sts l s i := by
    unfold runB
    show (if s = s then rowOf (runsUp sts l s) sts l s i else _) = _
    rw [if_pos rfl]
  rw [e]
  unfold rowOf
  have h1 : ∀ own, (fun j => stepB (runsUp sts l s) sts l s j own) = fun j => stepB (runB sts l) sts l s j own := fun own => funext fun j => stepB_congr ht fun t h => runsUp_eq sts l t _ s h
  rw [h1, h1]
theorem runB_step (ht : ToOk sts) (hl : lasCode l = 0) {s i : Nat} (hi : i < plN l) : runB sts l s i = (stepB (runB sts l) sts l s i false || (stepB (runB sts l) sts l s i true && runB sts l s (nx l i))) := by
  rw [runB_row ht, runB_row ht]
  unfold rowOf
  rw [runGo_unfold (fun j hj => nx_lt hl hj) hi]
theorem runB_leaves (ht : ToOk sts) {s i : Nat} (hf : finOf sts s = true) (h : runB sts l s i = true) : ∃ k, stepB (runB sts l) sts l s (it (nx l) k i) false = true := by
  rw [runB_row ht] at h
  exact runGo_leaves _ _ hf h
theorem runB_stays (ht : ToOk sts) {s i : Nat} (hf : finOf sts s = false) (T : Nat → Prop) (hT : ∀ j, T j → stepB (runB sts l) sts l s j true = true ∧ T (nx l j)) (h : T i) : runB sts l s i = true := by
  rw [runB_row ht]
  exact runGo_stays T hT _ _ hf h
end
/-- Does an alternating automaton accept a word? -/
def altAcc (a : Alt) (l : Las) : Bool := a.init.any fun q => q.all fun s => runB a.states l s.toNat 0
end Go.Proofs.YtelanndleinabaaDoor
