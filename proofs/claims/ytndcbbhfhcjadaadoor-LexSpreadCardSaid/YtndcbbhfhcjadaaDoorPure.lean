/- The lexer as a function on lists of bytes: no program in sight. -/
import Derived.Test.YtndcbbhfhcjadaaDoorSmall
namespace Go.Proofs.YtndcbbhfhcjadaaDoor

abbrev Bs := List UInt8

/-- A blank. -/
def isBl (c : UInt8) : Bool := c == 32 || c == 9 || c == 10 || c == 13

/-- What is told: a mistake and its place, or an answer. -/
inductive Res (A : Type) where
  | bad (code at_ : Nat)
  | ok (a : A)
deriving DecidableEq

/-- Over blanks and remarks; m: within a remark; i: the place of l's head. -/
def blank : Bool → Nat → Bs → Res Nat
  | m, i, c :: d :: r =>
    if m then (if c == 42 && d == 47 then blank false (i + 2) r else blank true (i + 1) (d :: r))
    else if c == 47 && d == 42 then blank true (i + 2) r
    else if isBl c then blank false (i + 1) (d :: r) else .ok i
  | m, i, [c] => if m then .bad 21 (i + 1) else if isBl c then .ok (i + 1) else .ok i
  | m, i, [] => if m then .bad 21 i else .ok i

/-- A word. -/
structure Tk where
  kind : Nat
  text : Bs
  num : Nat
  at_ : Nat
deriving DecidableEq

def lod (c : UInt8) : Bool := ltr c.toNat || dig c.toNat
def isDig (c : UInt8) : Bool := dig c.toNat

/-- A number's value. -/
def val (v : Nat) (l : Bs) : Nat := l.foldl (fun v c => 10 * v + (c.toNat - 48)) v

/-- What stands behind a backslash. -/
def esc (c : UInt8) : Option UInt8 :=
  if c == 110 then some 10 else if c == 116 then some 9 else if c == 92 then some 92 else if c == 34 then some 34 else none

/-- Between quotes; i: the place of l's head; what is read so far. -/
def quo : Nat → Bs → Bs → Res (Bs × Nat)
  | i, acc, c :: d :: r =>
    if c == 34 then .ok (acc, i + 1)
    else if decide (c.toNat < 32) || decide (126 < c.toNat) then .bad 22 i
    else if c == 92 then (match esc d with | some x => quo (i + 2) (acc ++ [x]) r | none => .bad 22 i)
    else quo (i + 1) (acc ++ [c]) (d :: r)
  | i, acc, [c] =>
    if c == 34 then .ok (acc, i + 1)
    else if decide (c.toNat < 32) || decide (126 < c.toNat) then .bad 22 i
    else if c == 92 then .bad 22 i
    else .bad 21 (i + 1)
  | i, _, [] => .bad 21 i

/-- The words of other bytes. -/
def sign (i : Nat) : Bs → Res (Tk × Nat)
  | [] => .bad 20 i
  | [c] => if isOne c.toNat then .ok (⟨4, [c], 0, i⟩, i + 1) else .bad 20 i
  | c :: d :: _ => if twos.contains [c, d] then .ok (⟨4, [c, d], 0, i⟩, i + 2) else if isOne c.toNat then .ok (⟨4, [c], 0, i⟩, i + 1) else .bad 20 i

/-- The word that begins at place i, and where it ends. -/
def word (i : Nat) (l : Bs) : Res (Tk × Nat) :=
  match l with
  | [] => .bad 20 i
  | c :: r =>
    if ltr c.toNat then
      let n := (l.takeWhile lod).length
      if 32 < n then .bad 22 i else .ok (⟨if names.contains (l.take n) then 4 else 1, l.take n, 0, i⟩, i + n)
    else if isDig c then
      let n := (l.takeWhile isDig).length
      if 10 < n || 2147483647 < val 0 (l.take n) || ((l.drop n).head?.any fun d => ltr d.toNat) then .bad 22 i
      else .ok (⟨2, l.take n, val 0 (l.take n), i⟩, i + n)
    else if c == 34 then (match quo (i + 1) [] r with | .bad x y => .bad x y | .ok (b, k) => .ok (⟨3, b, 0, i⟩, k))
    else sign i l

/-- The words of a text of which l is the rest from place i on. -/
def toks : Nat → Nat → Bs → Res (List Tk)
  | 0, _, _ => .ok []
  | f + 1, i, l =>
    match blank false i l with
    | .bad x y => .bad x y
    | .ok k =>
      match l.drop (k - i) with
      | [] => .ok []
      | c :: r =>
        match word k (c :: r) with
        | .bad x y => .bad x y
        | .ok (t, n) =>
          match toks f n ((c :: r).drop (n - k)) with
          | .bad x y => .bad x y
          | .ok ts => .ok (t :: ts)

def tokens (l : Bs) : Res (List Tk) := toks (l.length + 1) 0 l

theorem blank_ge : ∀ (l : Bs) (m : Bool) (i k : Nat), blank m i l = .ok k → i ≤ k ∧ k ≤ i + l.length
  | [], m, i, k, h => by
    cases m <;> simp [blank] at h
    subst h; simp
  | [c], m, i, k, h => by
    cases m <;> simp [blank] at h
    split at h <;> (simp at h; subst h; simp)
  | c :: d :: r, m, i, k, h => by
    unfold blank at h
    split at h
    · split at h
      · have := blank_ge r _ _ _ h; simp; omega
      · have := blank_ge (d :: r) _ _ _ h; simp at this ⊢; omega
    · split at h
      · have := blank_ge r _ _ _ h; simp; omega
      · split at h
        · have := blank_ge (d :: r) _ _ _ h; simp at this ⊢; omega
        · injection h with h; subst h; simp

theorem quo_ge : ∀ (l : Bs) (acc : Bs) (i : Nat) (b : Bs) (k : Nat), quo i acc l = .ok (b, k) → i < k ∧ k ≤ i + l.length
  | [], acc, i, b, k, h => by simp [quo] at h
  | [c], acc, i, b, k, h => by
    unfold quo at h
    split at h
    · injection h with h; injection h with _ h; subst h; simp
    · repeat (split at h; · cases h)
      cases h
  | c :: d :: r, acc, i, b, k, h => by
    unfold quo at h
    split at h
    · injection h with h; injection h with _ h; subst h; simp
    · split at h
      · cases h
      · split at h
        · split at h
          · have := quo_ge r _ _ _ _ h; simp; omega
          · cases h
        · have := quo_ge (d :: r) _ _ _ _ h; simp at this ⊢; omega

theorem takeWhile_len (p : UInt8 → Bool) : ∀ l : Bs, (l.takeWhile p).length ≤ l.length
  | [] => by simp
  | c :: r => by
    rw [List.takeWhile_cons]
    split
    · have := takeWhile_len p r; simp; omega
    · simp

theorem sign_ge {l : Bs} {i : Nat} {t : Tk} {n : Nat} (h : sign i l = .ok (t, n)) : i < n ∧ n ≤ i + l.length := by
  unfold sign at h
  split at h
  · cases h
  · split at h
    · injection h with h; injection h with _ h; subst h; simp
    · cases h
  · split at h
    · injection h with h; injection h with _ h; subst h; simp
    · split at h
      · injection h with h; injection h with _ h; subst h; simp
      · cases h

theorem word_ge {l : Bs} {i : Nat} {t : Tk} {n : Nat} (h : word i l = .ok (t, n)) : i < n ∧ n ≤ i + l.length := by
  unfold word at h
  split at h
  · cases h
  · rename_i c r
    split at h
    · rename_i hc
      have h1 := takeWhile_len lod (c :: r)
      have h2 : 0 < ((c :: r).takeWhile lod).length := by rw [List.takeWhile_cons, if_pos (by unfold lod; rw [hc]; rfl)]; simp
      simp only at h
      split at h
      · cases h
      · injection h with h; injection h with _ h; subst h; omega
    · split at h
      · rename_i hc
        have h1 := takeWhile_len isDig (c :: r)
        have h2 : 0 < ((c :: r).takeWhile isDig).length := by rw [List.takeWhile_cons, if_pos hc]; simp
        simp only at h
        split at h
        · cases h
        · injection h with h; injection h with _ h; subst h; omega
      · split at h
        · split at h
          · cases h
          · rename_i b k hq
            injection h with h; injection h with _ h; subst h
            have := quo_ge _ _ _ _ _ hq
            simp; omega
        · exact sign_ge h

/-- Fuel enough is enough. -/
theorem toks_fuel : ∀ (f g i : Nat) (l : Bs), l.length < f → l.length < g → toks f i l = toks g i l
  | 0, _, _, _, h, _ => by omega
  | _ + 1, 0, _, _, _, h => by omega
  | f + 1, g + 1, i, l, hf, hg => by
    unfold toks
    split
    · rfl
    · rename_i k hk
      have h1 := blank_ge _ _ _ _ hk
      split
      · rfl
      · rename_i c r hd
        have h3 : (c :: r).length = l.length - (k - i) := by rw [← hd, List.length_drop]
        split
        · rfl
        · rename_i t n hw
          have h2 := word_ge hw
          rw [toks_fuel f g n _ (by rw [List.length_drop]; omega) (by rw [List.length_drop]; omega)]

/-- The words from place i on. -/
def tk (i : Nat) (l : Bs) : Res (List Tk) := toks (l.length + 1) i l
theorem tk_eq (i : Nat) (l : Bs) : tk i l = match blank false i l with
    | .bad x y => .bad x y
    | .ok k =>
      match l.drop (k - i) with
      | [] => .ok []
      | c :: r =>
        match word k (c :: r) with
        | .bad x y => .bad x y
        | .ok (t, n) =>
          match tk n ((c :: r).drop (n - k)) with
          | .bad x y => .bad x y
          | .ok ts => .ok (t :: ts) := by
  unfold tk
  rw [toks]
  split
  · rfl
  · rename_i k hk
    have h1 := blank_ge _ _ _ _ hk
    split
    · rfl
    · rename_i c r hd
      have h3 : (c :: r).length = l.length - (k - i) := by rw [← hd, List.length_drop]
      split
      · rfl
      · rename_i t n hw
        have h2 := word_ge hw
        rw [toks_fuel l.length _ n _ (by rw [List.length_drop]; omega) (Nat.lt_succ_self _)]

theorem awake_tokens : (match tk 0 [112, 114, 111, 99, 116, 121, 112, 101, 32, 80, 49, 40, 41, 32, 123, 32, 113, 33, 33, 120, 32, 47, 42, 32, 97, 32, 42, 47, 32, 125] with
    | .ok l => l.map fun t => (t.kind, t.text, t.at_)
    | .bad _ _ => []) =
  [(4, [112, 114, 111, 99, 116, 121, 112, 101], 0), (1, [80, 49], 9), (4, [40], 11), (4, [41], 12), (4, [123], 14), (1, [113], 16), (4, [33, 33], 17), (1, [120], 19), (4, [125], 29)] := by kernel_rfl
end Go.Proofs.YtndcbbhfhcjadaaDoor
