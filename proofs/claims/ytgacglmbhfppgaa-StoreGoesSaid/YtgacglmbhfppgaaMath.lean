/-
  Plain lists and numbers for the store of chapter 19: what the chains of the hash table are, with no program in sight. No conditions.
-/
import Derived.WalkKit
namespace Go.Proofs.Ytgacglmbhfppgaa

/-- The greatest number below n that p takes, plus one; 0: none. -/
def lastUp (p : Nat → Bool) : Nat → Nat
  | 0 => 0
  | n + 1 => if p n then n + 1 else lastUp p n

theorem lastUp_le (p : Nat → Bool) (n : Nat) : lastUp p n ≤ n := by
  induction n with
  | zero => exact Nat.le_refl _
  | succ n ih => unfold lastUp; split <;> omega

theorem lastUp_congr {p q : Nat → Bool} {n : Nat} (h : ∀ j, j < n → p j = q j) : lastUp p n = lastUp q n := by
  induction n with
  | zero => rfl
  | succ n ih => unfold lastUp; rw [h n (by omega), ih (fun j hj => h j (by omega))]

theorem lastUp_none {p : Nat → Bool} {n : Nat} (h : lastUp p n = 0) : ∀ j, j < n → p j = false := by
  induction n with
  | zero => intro j hj; omega
  | succ n ih =>
    unfold lastUp at h
    intro j hj
    split at h
    · omega
    · rename_i hn
      by_cases e : j = n
      · subst e; simpa using hn
      · exact ih h j (by omega)

theorem lastUp_some {p : Nat → Bool} {n k : Nat} (h : lastUp p n = k + 1) : p k = true ∧ k < n ∧ ∀ j, k < j → j < n → p j = false := by
  induction n with
  | zero => simp [lastUp] at h
  | succ n ih =>
    unfold lastUp at h
    split at h
    · rename_i hn
      have : k = n := by omega
      subst this
      exact ⟨hn, by omega, fun j _ _ => by omega⟩
    · rename_i hn
      obtain ⟨a, b, c⟩ := ih h
      refine ⟨a, by omega, fun j h1 h2 => ?_⟩
      by_cases e : j = n
      · subst e; simpa using hn
      · exact c j h1 (by omega)

/-- One byte of FNV-1a. -/
def hprime : Nat := 1099511628211
def hstep (h : Nat) (c : UInt8) : Nat := ((h ^^^ c.toNat) * hprime) % 18446744073709551616
def hseed : Nat := 14695981039346656037
def hashN (l : List UInt8) : Nat := l.foldl hstep hseed

theorem mod_big (x : Nat) : x % 18446744073709551616 < 18446744073709551616 := Nat.mod_lt x (by omega)
theorem hstep_lt (h : Nat) (c : UInt8) : hstep h c < 18446744073709551616 := mod_big _
theorem hashN_snoc (l : List UInt8) (c : UInt8) : hashN (l ++ [c]) = hstep (hashN l) c := by unfold hashN; rw [List.foldl_append, List.foldl_cons, List.foldl_nil]
theorem big_lt {a : Nat} (h : a = 14695981039346656037) : a < 18446744073709551616 := by omega
theorem hseed_lt : hseed < 18446744073709551616 := big_lt rfl
theorem hashN_lt (l : List UInt8) : hashN l < 18446744073709551616 := by
  rcases List.eq_nil_or_concat l with h | ⟨l', c, h⟩
  · rw [h, show hashN [] = hseed from rfl]; exact hseed_lt
  · rw [h, List.concat_eq_append, hashN_snoc]; exact hstep_lt _ _

abbrev Ent := ByteArray × Nat
def hOf (s : ByteArray) : Nat := hashN s.data.toList
theorem hOf_lt (s : ByteArray) : hOf s < 18446744073709551616 := hashN_lt _
def entCells (e : Ent) : List Value := [.string e.1, .int .u64 (hOf e.1 : Int), .int .i64 (e.2 : Int)]
def flat (es : List Ent) : List Value := es.flatMap entCells

theorem flat_nil : flat [] = [] := rfl
theorem flat_cons (e : Ent) (es : List Ent) : flat (e :: es) = entCells e ++ flat es := by simp [flat]
theorem flat_append (a b : List Ent) : flat (a ++ b) = flat a ++ flat b := by simp [flat]
theorem flat_length (es : List Ent) : (flat es).length = es.length * 3 := by
  induction es with
  | nil => rfl
  | cons e es ih => rw [flat_cons, List.length_append, ih, List.length_cons]; simp [entCells]; omega

theorem flat_get (es : List Ent) : ∀ (i : Nat) (hi : i < es.length),
    (flat es)[i * 3]? = some (.string es[i].1) ∧ (flat es)[i * 3 + 1]? = some (.int .u64 (hOf es[i].1 : Int)) ∧ (flat es)[i * 3 + 2]? = some (.int .i64 (es[i].2 : Int)) := by
  induction es with
  | nil => intro i hi; simp at hi
  | cons e es ih =>
    intro i hi
    rw [flat_cons]
    cases i with
    | zero => simp [entCells]
    | succ i =>
      have h3 : (entCells e).length = 3 := rfl
      obtain ⟨a, b, c⟩ := ih i (by simpa using hi)
      rw [show (i + 1) * 3 = (entCells e).length + i * 3 from by omega, List.getElem?_append_right (by omega), List.getElem?_append_right (by omega), List.getElem?_append_right (by omega)]
      refine ⟨?_, ?_, ?_⟩
      · rw [show (entCells e).length + i * 3 - (entCells e).length = i * 3 from by omega]; exact a
      · rw [show (entCells e).length + i * 3 + 1 - (entCells e).length = i * 3 + 1 from by omega]; exact b
      · rw [show (entCells e).length + i * 3 + 2 - (entCells e).length = i * 3 + 2 from by omega]; exact c

theorem flat_set (es : List Ent) : ∀ (i : Nat) (hi : i < es.length) (k : Nat),
    flat (es.set i (es[i].1, k)) = (flat es).set (i * 3 + 2) (.int .i64 (k : Int)) := by
  induction es with
  | nil => intro i hi; simp at hi
  | cons e es ih =>
    intro i hi k
    cases i with
    | zero => simp [flat_cons, entCells]
    | succ i =>
      have h3 : (entCells e).length = 3 := rfl
      simp only [List.set_cons_succ, flat_cons, List.getElem_cons_succ]
      rw [ih i (by simpa using hi) k, List.set_append_right _ _ (by omega)]
      congr 2
      omega

/-- The hash of entry j. -/
def hk (es : List Ent) (j : Nat) : Nat := hOf (es.getD j (ByteArray.empty, 0)).1

/-- The chains hold the first n entries. -/
structure Inv (n : Nat) (es : List Ent) (hs : List Nat) : Prop where
  pos : 0 < hs.length
  nx : ∀ i, i < n → (es.getD i (ByteArray.empty, 0)).2 = lastUp (fun j => hk es j % hs.length == hk es i % hs.length) i
  heads : ∀ k, k < hs.length → hs.getD k 0 = lastUp (fun j => hk es j % hs.length == k) n

theorem Inv.zero (es : List Ent) (m : Nat) (hm : 0 < m) : Inv 0 es (List.replicate m 0) :=
  ⟨by simpa using hm, fun i hi => by omega, fun k hk => by simp [lastUp] at *; simp [hk]⟩

theorem getD_app {α : Type} (l r : List α) (d : α) (j : Nat) (hj : j < l.length) : (l ++ r).getD j d = l.getD j d := by
  simp [List.getElem?_append_left hj]

theorem hk_append {es : List Ent} {e : Ent} {j : Nat} (hj : j < es.length) : hk (es ++ [e]) j = hk es j := by
  unfold hk; rw [getD_app _ _ _ _ hj]

theorem Inv.append {n : Nat} {es : List Ent} {hs : List Nat} (h : Inv n es hs) (hn : n ≤ es.length) (e : Ent) : Inv n (es ++ [e]) hs where
  pos := h.pos
  nx i hi := by
    rw [getD_app _ _ _ _ (by omega), h.nx i hi]
    refine lastUp_congr fun j hj => ?_
    rw [hk_append (by omega), hk_append (by omega)]
  heads k hk' := by
    rw [h.heads k hk']
    refine lastUp_congr fun j hj => ?_
    rw [hk_append (by omega)]

theorem hk_set {es : List Ent} {i k j : Nat} (hi : i < es.length) : hk (es.set i (es[i].1, k)) j = hk es j := by
  unfold hk
  by_cases e : i = j
  · subst e; simp [hi]
  · simp [List.getElem?_set_ne e]

/-- hang. -/
theorem Inv.hang {n : Nat} {es : List Ent} {hs : List Nat} (h : Inv n es hs) (hn : n < es.length) :
    Inv (n + 1) (es.set n (es[n].1, hs.getD (hk es n % hs.length) 0)) (hs.set (hk es n % hs.length) (n + 1)) where
  pos := by simpa using h.pos
  nx i hi := by
    simp only [List.length_set, hk_set hn]
    by_cases e : i = n
    · subst e
      have hx := h.heads (hk es i % hs.length) (Nat.mod_lt _ h.pos)
      simp [hn] at hx ⊢
      exact hx
    · have hx := h.nx i (by omega)
      rw [← hx]
      simp [List.getElem?_set_ne (Ne.symm e)]
  heads k hk' := by
    simp only [List.length_set] at hk' ⊢
    simp only [hk_set hn, lastUp]
    by_cases e : hk es n % hs.length = k
    · subst e
      simp [hk']
    · have hx := h.heads k hk'
      simp [e] at hx ⊢
      exact hx

end Go.Proofs.Ytgacglmbhfppgaa
