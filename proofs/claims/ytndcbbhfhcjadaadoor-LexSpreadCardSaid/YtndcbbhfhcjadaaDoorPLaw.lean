/- Plain laws of the lexer: no program in sight. -/
import Derived.Test.YtndcbbhfhcjadaaDoorLTok
namespace Go.Proofs.YtndcbbhfhcjadaaDoor
set_option linter.unusedVariables false

/-- Read from a place further on. -/
def shB (d : Nat) : Res Nat → Res Nat
  | .ok k => .ok (d + k)
  | .bad c a => .bad c (d + a)
def shT (d : Nat) (t : Tk) : Tk := ⟨t.kind, t.text, t.num, d + t.at_⟩
def shR (d : Nat) : Res (List Tk) → Res (List Tk)
  | .ok ts => .ok (ts.map (shT d))
  | .bad c a => .bad c (d + a)

theorem blank_shift (d : Nat) : ∀ (l : Bs) (m : Bool) (i : Nat), blank m (d + i) l = shB d (blank m i l)
  | [], m, i => by cases m <;> simp [blank, shB]
  | [c], m, i => by
    unfold blank
    repeat' split
    all_goals simp [shB, Nat.add_assoc]
  | c :: e :: r, m, i => by
    rw [blank, blank]
    have h1 := blank_shift d r false (i + 2)
    have h2 := blank_shift d (e :: r) true (i + 1)
    have h3 := blank_shift d r true (i + 2)
    have h4 := blank_shift d (e :: r) false (i + 1)
    simp only [← Nat.add_assoc] at h1 h2 h3 h4
    repeat' split
    all_goals first | assumption | simp [shB]

theorem tk_shift_ (d : Nat) : ∀ (n i : Nat) (l : Bs), l.length < n → tk (d + i) l = shR d (tk i l)
  | 0, _, _, h => by omega
  | n + 1, i, l, hn => by
    rw [tk_eq (d + i), tk_eq i, blank_shift]
    cases hb : blank false i l with
    | bad c a => rfl
    | ok k =>
      have h1 := blank_ge _ _ _ _ hb
      simp only [shB]
      rw [show d + k - (d + i) = k - i by omega]
      cases hd : l.drop (k - i) with
      | nil => rfl
      | cons c r =>
        simp only
        rw [word_shift]
        cases hw : word k (c :: r) with
        | bad x y => rfl
        | ok q =>
          obtain ⟨t, m⟩ := q
          have h2 := word_ge hw
          have h3 : (c :: r).length = l.length - (k - i) := by rw [← hd, List.length_drop]
          simp only [shW]
          rw [show d + m - (d + k) = m - k by omega, tk_shift_ d n m _ (by rw [List.length_drop]; omega)]
          cases tk m ((c :: r).drop (m - k)) with
          | bad x y => rfl
          | ok ts => simp [shR, shT]
theorem tk_shift (d i : Nat) (l : Bs) : tk (d + i) l = shR d (tk i l) := tk_shift_ d (l.length + 1) i l (Nat.lt_succ_self _)

theorem tk_skip {i j : Nat} {l : Bs} (hij : i ≤ j) (h : blank false i l = blank false j (l.drop (j - i))) : tk i l = tk j (l.drop (j - i)) := by
  rw [tk_eq i, tk_eq j, h]
  cases hb : blank false j (l.drop (j - i)) with
  | bad c a => rfl
  | ok k =>
    have h1 := blank_ge _ _ _ _ hb
    simp only
    rw [List.drop_drop, show j - i + (k - j) = k - i by omega]

theorem blank_one {b : UInt8} (hb : isBl b = true) (i : Nat) (r : Bs) : blank false i (b :: r) = blank false (i + 1) r := by
  cases r with
  | nil => simp [blank, hb]
  | cons d r =>
    have h47 : (b == 47) = false := by
      cases hh : b == 47 with
      | false => rfl
      | true => rw [eq_of_beq hh] at hb; cases hb
    rw [blank, if_neg (by decide), if_neg (by simp [h47]), if_pos hb]

theorem bl_not_star {b : UInt8} (hb : isBl b = true) : (b == 42) = false := by
  cases hh : b == 42 with
  | false => rfl
  | true => rw [eq_of_beq hh] at hb; cases hb

theorem blank_ext {b : UInt8} (hb : isBl b = true) (s : Bs) : ∀ (l : Bs) (m : Bool) (i k : Nat), blank m i l = .ok k → blank m i (l ++ b :: s) = if k < i + l.length then .ok k else blank false (k + 1) s
  | [], m, i, k, h => by
    cases m <;> simp [blank] at h
    subst h
    simp [blank_one hb]
  | [c], m, i, k, h => by
    cases m <;> simp [blank] at h
    rw [List.cons_append, List.nil_append, blank, if_neg (by decide), if_neg (by simp [bl_not_star hb])]
    by_cases hc : isBl c = true
    · rw [if_pos hc] at h ⊢
      injection h with h
      subst h
      rw [if_neg (by simp), blank_one hb]
    · rw [if_neg hc] at h ⊢
      injection h with h
      subst h
      rw [if_pos (by simp)]
  | c :: d :: r, m, i, k, h => by
    rw [List.cons_append, List.cons_append, blank]
    rw [blank] at h
    have e1 : ∀ j, j + r.length + 2 = j + (c :: d :: r).length := by intro j; simp; omega
    cases m
    · rw [if_neg (by decide)] at h ⊢
      by_cases h1 : (c == 47 && d == 42) = true
      · rw [if_pos h1] at h ⊢
        rw [blank_ext hb s r _ _ _ h]
        simp only [List.length_cons, show i + 2 + r.length = i + (r.length + 1 + 1) by omega]
      · rw [if_neg h1] at h ⊢
        by_cases h2 : isBl c = true
        · rw [if_pos h2] at h ⊢
          have := blank_ext hb s (d :: r) _ _ _ h
          rw [List.cons_append] at this
          rw [this]
          simp only [List.length_cons, show i + 1 + (r.length + 1) = i + (r.length + 1 + 1) by omega]
        · rw [if_neg h2] at h ⊢
          injection h with h
          subst h
          rw [if_pos (by simp)]
    · rw [if_pos rfl] at h ⊢
      by_cases h1 : (c == 42 && d == 47) = true
      · rw [if_pos h1] at h ⊢
        rw [blank_ext hb s r _ _ _ h]
        simp only [List.length_cons, show i + 2 + r.length = i + (r.length + 1 + 1) by omega]
      · rw [if_neg h1] at h ⊢
        have := blank_ext hb s (d :: r) _ _ _ h
        rw [List.cons_append] at this
        rw [this]
        simp only [List.length_cons, show i + 1 + (r.length + 1) = i + (r.length + 1 + 1) by omega]

theorem bl_plain {b : UInt8} (hb : isBl b = true) : lod b = false ∧ isDig b = false ∧ ltr b.toNat = false := by
  have : ∀ n : Fin 256, isBl (UInt8.ofNat n.val) = true → lod (UInt8.ofNat n.val) = false ∧ isDig (UInt8.ofNat n.val) = false ∧ ltr (UInt8.ofNat n.val).toNat = false := by decide +kernel
  have h := this ⟨b.toNat, b.toNat_lt⟩
  simpa [hb] using h
theorem bl_twos {b : UInt8} (hb : isBl b = true) (c : UInt8) : twos.contains [c, b] = false := by
  cases hc : twos.contains [c, b] with
  | false => rfl
  | true =>
    have h : ∀ x ∈ twos, x.all (fun y => !isBl y) = true := by decide +kernel
    have := h _ (List.elem_iff.1 hc)
    simp [hb] at this

theorem tw_ext (p : UInt8 → Bool) {b : UInt8} (hb : p b = false) (s : Bs) : ∀ l : Bs, (l ++ b :: s).takeWhile p = l.takeWhile p
  | [] => by simp [hb]
  | c :: l => by
    rw [List.cons_append, List.takeWhile_cons, List.takeWhile_cons, tw_ext p hb s l]

theorem quo_ext (s : Bs) : ∀ (l acc : Bs) (i : Nat) (q : Bs × Nat), quo i acc l = .ok q → quo i acc (l ++ s) = .ok q
  | [], acc, i, q, h => by simp [quo] at h
  | [c], acc, i, q, h => by
    unfold quo at h
    split at h
    · rename_i hc
      cases s with
      | nil => rw [List.append_nil, quo, if_pos hc]; exact h
      | cons d s => rw [List.cons_append, List.nil_append, quo, if_pos hc]; exact h
    · repeat (split at h; · cases h)
      cases h
  | c :: d :: r, acc, i, q, h => by
    rw [List.cons_append, List.cons_append, quo]
    rw [quo] at h
    split at h
    · rename_i hc; rw [if_pos hc]; exact h
    · rename_i hc; rw [if_neg hc]
      split at h
      · cases h
      · rename_i hv; rw [if_neg hv]
        split at h
        · rename_i h92; rw [if_pos h92]
          cases he : esc d with
          | none => rw [he] at h; cases h
          | some x => rw [he] at h; simp only at h ⊢; exact quo_ext s r _ _ _ h
        · rename_i h92; rw [if_neg h92]
          have := quo_ext s (d :: r) _ _ _ h
          rw [List.cons_append] at this
          exact this

theorem word_ext {b : UInt8} (hb : isBl b = true) (s : Bs) {c : UInt8} {l : Bs} {i : Nat} {q : Tk × Nat} (h : word i (c :: l) = .ok q) : word i (c :: l ++ b :: s) = .ok q := by
  obtain ⟨hb1, hb2, hb3⟩ := bl_plain hb
  have e1 := tw_ext lod hb1 s (c :: l)
  have e2 := tw_ext isDig hb2 s (c :: l)
  have t1 : ((c :: l) ++ b :: s).take ((c :: l).takeWhile lod).length = (c :: l).take ((c :: l).takeWhile lod).length := List.take_append_of_le_length (takeWhile_len _ _)
  have t2 : ((c :: l) ++ b :: s).take ((c :: l).takeWhile isDig).length = (c :: l).take ((c :: l).takeWhile isDig).length := List.take_append_of_le_length (takeWhile_len _ _)
  have t3 : (((c :: l) ++ b :: s).drop ((c :: l).takeWhile isDig).length).head?.any (fun d => ltr d.toNat) = (((c :: l).drop ((c :: l).takeWhile isDig).length).head?.any fun d => ltr d.toNat) := by
    rw [List.drop_append_of_le_length (takeWhile_len _ _)]
    cases (c :: l).drop ((c :: l).takeWhile isDig).length with
    | nil => simp [hb3]
    | cons x y => rfl
  rw [List.cons_append] at e1 e2 t1 t2 t3 ⊢
  unfold word at h ⊢
  simp only at h ⊢
  rw [e1, e2, t1, t2, t3]
  by_cases h1 : ltr c.toNat = true
  · rw [if_pos h1] at h ⊢; exact h
  · rw [if_neg h1] at h ⊢
    by_cases h2 : isDig c = true
    · rw [if_pos h2] at h ⊢; exact h
    · rw [if_neg h2] at h ⊢
      by_cases h3 : (c == 34) = true
      · rw [if_pos h3] at h ⊢
        cases hq : quo (i + 1) [] l with
        | bad x y => rw [hq] at h; cases h
        | ok q' =>
          rw [quo_ext (b :: s) l _ _ _ hq]
          rw [hq] at h
          exact h
      · rw [if_neg h3] at h ⊢
        cases l with
        | nil =>
          rw [List.nil_append, sign, if_neg (by rw [bl_twos hb]; decide)]
          exact h
        | cons d r => exact h

theorem tk_ext_ {b : UInt8} (hb : isBl b = true) (s : Bs) : ∀ (n i : Nat) (l : Bs) (ts : List Tk), l.length < n → tk i l = .ok ts → tk i (l ++ b :: s) = prep ts (tk (i + l.length + 1) s)
  | 0, _, _, _, h, _ => by omega
  | n + 1, i, l, ts, hn, h => by
    rw [tk_eq] at h
    cases hbl : blank false i l with
    | bad c a => rw [hbl] at h; cases h
    | ok k =>
      have h1 := blank_ge _ _ _ _ hbl
      have hx := blank_ext hb s _ _ _ _ hbl
      rw [hbl] at h
      simp only at h
      cases hd : l.drop (k - i) with
      | nil =>
        rw [hd] at h
        injection h with h
        subst h
        have hk : k = i + l.length := by
          have := congrArg List.length hd
          simp at this
          omega
        subst hk
        rw [if_neg (by omega)] at hx
        rw [prep_nil]
        have hdr : (l ++ b :: s).drop (i + l.length + 1 - i) = s := by
          rw [show i + l.length + 1 - i = l.length + 1 by omega, ← List.drop_drop, List.drop_left]; rfl
        have := tk_skip (i := i) (j := i + l.length + 1) (l := l ++ b :: s) (by omega) (by rw [hdr]; exact hx)
        rw [this, hdr]
      | cons c r =>
        rw [hd] at h
        simp only at h
        have h3 : (c :: r).length = l.length - (k - i) := by rw [← hd, List.length_drop]
        have h3' : 0 < (c :: r).length := by simp
        rw [if_pos (by omega)] at hx
        have hdr : (l ++ b :: s).drop (k - i) = c :: r ++ b :: s := by rw [List.drop_append_of_le_length (by omega), hd]
        rw [tk_eq, hx]
        simp only
        rw [hdr]
        cases hw : word k (c :: r) with
        | bad x y => rw [hw] at h; cases h
        | ok q =>
          obtain ⟨t, m⟩ := q
          have h2 := word_ge hw
          have hwx := word_ext hb s hw
          rw [List.cons_append] at hwx ⊢
          simp only [hwx]
          rw [hw] at h
          simp only at h
          cases ht : tk m ((c :: r).drop (m - k)) with
          | bad x y => rw [ht] at h; cases h
          | ok ts' =>
            rw [ht] at h
            injection h with h
            subst h
            have ih := tk_ext_ hb s n m _ ts' (by rw [List.length_drop]; omega) ht
            rw [List.length_drop, ← List.drop_append_of_le_length (by omega), List.cons_append] at ih
            rw [ih, show m + ((c :: r).length - (m - k)) + 1 = i + l.length + 1 by omega]
            cases tk (i + l.length + 1) s <;> rfl
theorem tk_ext {b : UInt8} (hb : isBl b = true) (s : Bs) {i : Nat} {l : Bs} {ts : List Tk} (h : tk i l = .ok ts) : tk i (l ++ b :: s) = prep ts (tk (i + l.length + 1) s) :=
  tk_ext_ hb s (l.length + 1) i l ts (Nat.lt_succ_self _) h

/-- Two texts, one behind the other. -/
theorem tk_joins {a b : Bs} {xs ys : List Tk} (ha : tk 0 a = .ok xs) (hb : tk 0 b = .ok ys) : tk 0 (a ++ 10 :: b) = .ok (xs ++ ys.map (shT (a.length + 1))) := by
  rw [tk_ext (by decide) b ha, Nat.zero_add]
  have := tk_shift (a.length + 1) 0 b
  rw [Nat.add_zero] at this
  rw [this, hb]; rfl

/-- No end of a remark within. -/
def noClose : Bs → Bool
  | c :: d :: r => !(c == 42 && d == 47) && noClose (d :: r)
  | _ => true
theorem blank_remark (s : Bs) : ∀ (l : Bs) (i : Nat), noClose l = true → blank true i (l ++ 32 :: 42 :: 47 :: s) = blank false (i + l.length + 3) s
  | [], i, _ => by
    rw [List.nil_append, blank, if_pos rfl, if_neg (by decide), blank, if_pos rfl, if_pos (by decide)]
    rfl
  | [c], i, _ => by
    rw [List.cons_append, List.nil_append, blank, if_pos rfl, if_neg (by simp), blank, if_pos rfl, if_neg (by decide), blank, if_pos rfl, if_pos (by decide)]
    rfl
  | c :: d :: r, i, h => by
    rw [noClose, Bool.and_eq_true] at h
    rw [List.cons_append, List.cons_append, blank, if_pos rfl, if_neg (by intro hh; rw [hh] at h; exact absurd h.1 (by decide))]
    have := blank_remark s (d :: r) (i + 1) h.2
    rw [List.cons_append] at this
    rw [this]
    simp only [List.length_cons]
    rw [show i + 1 + (r.length + 1) + 3 = i + (r.length + 1 + 1) + 3 by omega]
theorem tk_remarks {r s : Bs} (h : noClose r = true) : tk 0 (47 :: 42 :: (r ++ 32 :: 42 :: 47 :: s)) = shR (r.length + 5) (tk 0 s) := by
  have hdr : (47 :: 42 :: (r ++ 32 :: 42 :: 47 :: s) : Bs).drop (r.length + 5 - 0) = s := by
    rw [Nat.sub_zero, show r.length + 5 = 2 + (r.length + 3) by omega, ← List.drop_drop, ← List.drop_drop]
    show ((r ++ 32 :: 42 :: 47 :: s).drop r.length).drop 3 = s
    rw [List.drop_left]; rfl
  have hb : blank false 0 (47 :: 42 :: (r ++ 32 :: 42 :: 47 :: s)) = blank false (r.length + 5) s := by
    rw [blank, if_neg (by decide), if_pos (by decide), blank_remark s r _ h]
    rw [show 0 + 2 + r.length + 3 = r.length + 5 by omega]
  have := tk_skip (i := 0) (j := r.length + 5) (l := 47 :: 42 :: (r ++ 32 :: 42 :: 47 :: s)) (by omega) (by rw [hdr]; exact hb)
  rw [this, hdr]
  exact tk_shift (r.length + 5) 0 s

/-- A number's digits alone. -/
theorem tw_all (p : UInt8 → Bool) : ∀ l : Bs, l.all p = true → l.takeWhile p = l
  | [], _ => rfl
  | c :: l, h => by
    rw [List.all_cons, Bool.and_eq_true] at h
    rw [List.takeWhile_cons, if_pos h.1, tw_all p l h.2]
theorem tw_take (p : UInt8 → Bool) (l : Bs) : l.take (l.takeWhile p).length = l.takeWhile p := by
  induction l with
  | nil => rfl
  | cons c l ih =>
    rw [List.takeWhile_cons]
    split
    · rw [List.length_cons, List.take_succ_cons, ih]
    · rfl
theorem tw_self (p : UInt8 → Bool) (l : Bs) : (l.takeWhile p).takeWhile p = l.takeWhile p := tw_all p _ (by
  induction l with
  | nil => rfl
  | cons c l ih =>
    rw [List.takeWhile_cons]
    split
    · rename_i h; rw [List.all_cons, h, ih]; rfl
    · rfl)

theorem low_plain (c : UInt8) : (ltr c.toNat = true ∨ isDig c = true ∨ isOne c.toNat = true) → isBl c = false := by
  have : ∀ n : Fin 256, (ltr (UInt8.ofNat n.val).toNat = true ∨ isDig (UInt8.ofNat n.val) = true ∨ isOne (UInt8.ofNat n.val).toNat = true) → isBl (UInt8.ofNat n.val) = false := by decide +kernel
  have h := this ⟨c.toNat, c.toNat_lt⟩
  simpa using h
theorem dig_not_ltr (c : UInt8) : isDig c = true → ltr c.toNat = false := by
  have : ∀ n : Fin 256, isDig (UInt8.ofNat n.val) = true → ltr (UInt8.ofNat n.val).toNat = false := by decide +kernel
  have h := this ⟨c.toNat, c.toNat_lt⟩
  simpa using h
theorem name_not_open (c : UInt8) : (ltr c.toNat = true ∨ isDig c = true) → (c == 47) = false := by
  have : ∀ n : Fin 256, (ltr (UInt8.ofNat n.val).toNat = true ∨ isDig (UInt8.ofNat n.val) = true) → ((UInt8.ofNat n.val) == 47) = false := by decide +kernel
  have h := this ⟨c.toNat, c.toNat_lt⟩
  simpa using h

/-- Where no blank and no remark begins. -/
theorem blank_here {c : UInt8} {r : Bs} (i : Nat) (h : isBl c = false) (h' : ∀ d s, r = d :: s → (c == 47 && d == 42) = false) : blank false i (c :: r) = .ok i := by
  cases r with
  | nil => simp [blank, h]
  | cons d s => rw [blank, if_neg (by decide), if_neg (by rw [h' d s rfl]; decide), if_neg (by rw [h]; decide)]

/-- A text that is one word. -/
theorem tk_one {c : UInt8} {r : Bs} {i : Nat} {t : Tk} (hb : blank false i (c :: r) = .ok i) (hw : word i (c :: r) = .ok (t, i + (c :: r).length)) : tk i (c :: r) = .ok [t] := by
  rw [tk_eq, hb]
  simp only
  rw [show i - i = 0 by omega, List.drop_zero]
  simp only [hw]
  rw [show i + (c :: r).length - i = (c :: r).length by omega, List.drop_length, tk_eq]
  simp [blank]
theorem tk_none {c : UInt8} {r : Bs} {i x y : Nat} (hb : blank false i (c :: r) = .ok i) (hw : word i (c :: r) = .bad x y) : tk i (c :: r) = .bad x y := by
  rw [tk_eq, hb]
  simp only
  rw [show i - i = 0 by omega, List.drop_zero]
  simp only [hw]

theorem word_digits {c : UInt8} {r : Bs} (h : (c :: r).all isDig = true) (i : Nat) :
    word i (c :: r) = if 10 < (c :: r).length || 2147483647 < val 0 (c :: r) then .bad 22 i else .ok (⟨2, c :: r, val 0 (c :: r), i⟩, i + (c :: r).length) := by
  have h1 : isDig c = true := by rw [List.all_cons, Bool.and_eq_true] at h; exact h.1
  have h2 := dig_not_ltr c h1
  unfold word
  simp only [h2, Bool.false_eq_true, if_false, h1, if_true]
  rw [tw_all isDig _ h, List.take_length, List.drop_length]
  simp
theorem tk_digits {l : Bs} (h0 : l ≠ []) (h : l.all isDig = true) : tk 0 l = if 10 < l.length || 2147483647 < val 0 l then .bad 22 0 else .ok [⟨2, l, val 0 l, 0⟩] := by
  cases l with
  | nil => exact absurd rfl h0
  | cons c r =>
    have h1 : isDig c = true := by rw [List.all_cons, Bool.and_eq_true] at h; exact h.1
    have hb := blank_here (r := r) 0 (low_plain c (.inr (.inl h1))) (fun d s _ => by rw [name_not_open c (.inr h1)]; rfl)
    have hw := word_digits h 0
    by_cases hc : (decide (10 < (c :: r).length) || decide (2147483647 < val 0 (c :: r))) = true
    · rw [if_pos hc] at hw ⊢
      exact tk_none hb hw
    · rw [if_neg hc] at hw ⊢
      exact tk_one hb (by rw [Nat.zero_add] at hw ⊢; exact hw)

/-- What a word is but for its place. -/
def key (t : Tk) : Nat × Bs × Nat := (t.kind, t.text, t.num)
/-- The words of a text, each again. -/
theorem word_again {i n : Nat} {c : UInt8} {r : Bs} {t : Tk} (h : word i (c :: r) = .ok (t, n)) (h3 : t.kind ≠ 3) (j : Nat) : t.text ≠ [] ∧ tk j t.text = .ok [⟨t.kind, t.text, t.num, j⟩] := by
  unfold word at h
  simp only at h
  by_cases h1 : ltr c.toNat = true
  · rw [if_pos h1, tw_take] at h
    have hl : lod c = true := by unfold lod; rw [h1]; rfl
    have hx : (c :: r).takeWhile lod = c :: r.takeWhile lod := by rw [List.takeWhile_cons, if_pos hl]
    split at h
    · cases h
    · rename_i h32
      injection h with h; injection h with h _
      subst h
      simp only
      rw [hx] at h32 ⊢
      refine ⟨by simp, tk_one (blank_here _ (low_plain c (.inl h1)) fun d s _ => by rw [name_not_open c (.inl h1)]; rfl) ?_⟩
      have hs := tw_self lod (c :: r)
      rw [hx] at hs
      unfold word
      simp only
      rw [if_pos h1, hs, List.take_length, if_neg h32]
  · rw [if_neg h1] at h
    by_cases h2 : isDig c = true
    · rw [if_pos h2, tw_take] at h
      have hx : (c :: r).takeWhile isDig = c :: r.takeWhile isDig := by rw [List.takeWhile_cons, if_pos h2]
      split at h
      · cases h
      · rename_i hn
        injection h with h; injection h with h _
        subst h
        simp only
        rw [hx] at hn ⊢
        have hs := tw_self isDig (c :: r)
        have hall : (c :: r.takeWhile isDig).all isDig = true := by
          rw [← hx, ← hs]
          induction (c :: r).takeWhile isDig with
          | nil => rfl
          | cons a l ih => rw [List.takeWhile_cons]; split <;> simp_all
        refine ⟨by simp, tk_one (blank_here _ (low_plain c (.inr (.inl h2))) fun d s _ => by rw [name_not_open c (.inr h2)]; rfl) ?_⟩
        rw [word_digits hall, if_neg]
        simp at hn ⊢
        omega
    · rw [if_neg h2] at h
      by_cases h34 : (c == 34) = true
      · rw [if_pos h34] at h
        cases hq : quo (i + 1) [] r with
        | bad x y => rw [hq] at h; cases h
        | ok q => rw [hq] at h; injection h with h; injection h with h _; subst h; exact absurd rfl h3
      · rw [if_neg h34] at h
        have one : isOne c.toNat = true → tk j [c] = .ok [⟨4, [c], 0, j⟩] := fun h4 =>
          tk_one (blank_here _ (low_plain c (.inr (.inr h4))) fun d s e => by cases e) (by
            unfold word
            simp only
            rw [if_neg h1, if_neg h2, if_neg h34, sign, if_pos h4]
            rfl)
        cases r with
        | nil =>
          rw [sign] at h
          split at h
          · rename_i h4
            injection h with h; injection h with h _
            subst h
            exact ⟨by simp, one h4⟩
          · cases h
        | cons d s =>
          rw [sign] at h
          split at h
          · rename_i h4
            injection h with h; injection h with h _
            subst h
            refine ⟨by simp, tk_one ?_ ?_⟩
            · have hall : ∀ x ∈ twos, (match x with | a :: b :: _ => isBl a == false && (a == 47 && b == 42) == false | _ => true) = true := by decide +kernel
              have hx := hall _ (List.elem_iff.1 h4)
              simp only [Bool.and_eq_true] at hx
              exact blank_here _ (eq_of_beq hx.1) fun d' s' e => by
                injection e with e1 e2
                subst e1
                exact eq_of_beq hx.2
            · unfold word
              simp only
              rw [if_neg h1, if_neg h2, if_neg h34, sign, if_pos h4]
              rfl
          · split at h
            · rename_i h4
              injection h with h; injection h with h _
              subst h
              exact ⟨by simp, one h4⟩
            · cases h

theorem tk_words : ∀ (n i : Nat) (l : Bs) (ts : List Tk), l.length < n → tk i l = .ok ts → ∀ t ∈ ts, ∃ k c r m, word k (c :: r) = .ok (t, m) ∧ (c :: r).length ≤ l.length ∧ k ≤ i + l.length
  | 0, _, _, _, h, _ => by omega
  | n + 1, i, l, ts, hn, h => by
    rw [tk_eq] at h
    cases hbl : blank false i l with
    | bad c a => rw [hbl] at h; cases h
    | ok k =>
      have h1 := blank_ge _ _ _ _ hbl
      rw [hbl] at h
      simp only at h
      cases hd : l.drop (k - i) with
      | nil => rw [hd] at h; injection h with h; subst h; intro t ht; cases ht
      | cons c r =>
        rw [hd] at h
        simp only at h
        have h3 : (c :: r).length = l.length - (k - i) := by rw [← hd, List.length_drop]
        cases hw : word k (c :: r) with
        | bad x y => rw [hw] at h; cases h
        | ok q =>
          obtain ⟨t, m⟩ := q
          have h2 := word_ge hw
          rw [hw] at h
          simp only at h
          cases ht : tk m ((c :: r).drop (m - k)) with
          | bad x y => rw [ht] at h; cases h
          | ok ts' =>
            rw [ht] at h
            injection h with h
            subst h
            intro u hu
            rcases List.mem_cons.1 hu with rfl | hu
            · exact ⟨k, c, r, m, hw, by omega, h1.2⟩
            · obtain ⟨k', c', r', m', hw', hl', hk'⟩ := tk_words n m _ ts' (by rw [List.length_drop]; omega) ht u hu
              rw [List.length_drop] at hl' hk'
              exact ⟨k', c', r', m', hw', by omega, by omega⟩

/-- Words with a blank between each two. -/
def spread : List Bs → Bs
  | [] => []
  | [x] => x
  | x :: y :: r => x ++ 32 :: spread (y :: r)
theorem spread_snoc : ∀ (xs : List Bs) (y : Bs), xs ≠ [] → spread (xs ++ [y]) = spread xs ++ 32 :: y
  | [], _, h => absurd rfl h
  | [x], y, _ => rfl
  | x :: z :: r, y, _ => by
    have := spread_snoc (z :: r) y (by simp)
    rw [List.cons_append, List.cons_append, spread, ← List.cons_append, this, spread]
    simp
theorem tk_spread_ : ∀ (ts : List Tk) (j : Nat), (∀ t ∈ ts, ∀ j, tk j t.text = .ok [⟨t.kind, t.text, t.num, j⟩]) → ∃ ys, tk j (spread (ts.map (·.text))) = .ok ys ∧ ys.map key = ts.map key
  | [], j, _ => ⟨[], by rw [tk_eq]; simp [spread, blank], rfl⟩
  | [t], j, h => ⟨_, h t (List.mem_cons_self ..) j, rfl⟩
  | t :: u :: r, j, h => by
    obtain ⟨ys, h1, h2⟩ := tk_spread_ (u :: r) (j + t.text.length + 1) fun x hx => h x (List.mem_cons_of_mem _ hx)
    have h3 := tk_ext (b := 32) (by decide) (spread ((u :: r).map (·.text))) (h t (List.mem_cons_self ..) j)
    rw [h1] at h3
    exact ⟨_, h3, by simp only [List.cons_append, List.nil_append, List.map_cons] at h2 ⊢; rw [h2]; rfl⟩
theorem tk_spread {l : Bs} {ts : List Tk} (h : tk 0 l = .ok ts) (h3 : ∀ t ∈ ts, t.kind ≠ 3) : ∃ ys, tk 0 (spread (ts.map (·.text))) = .ok ys ∧ ys.map key = ts.map key :=
  tk_spread_ ts 0 fun t ht j => by
    obtain ⟨k, c, r, m, hw, _⟩ := tk_words _ 0 l ts (Nat.lt_succ_self _) h t ht
    exact (word_again hw (h3 t ht) j).2

/-- No word is longer than the text. -/
theorem word_size {i n : Nat} {l : Bs} {t : Tk} (h : word i l = .ok (t, n)) (h3 : t.kind ≠ 3) : t.text.length ≤ l.length := by
  unfold word at h
  split at h
  · cases h
  · rename_i c r
    simp only at h
    split at h
    · split at h
      · cases h
      · injection h with h; injection h with h _; subst h
        exact List.length_take_le' _ _
    · split at h
      · split at h
        · cases h
        · injection h with h; injection h with h _; subst h
          exact List.length_take_le' _ _
      · split at h
        · split at h
          · cases h
          · injection h with h; injection h with h _; subst h; exact absurd rfl h3
        · cases r with
          | nil =>
            rw [sign] at h
            split at h
            · injection h with h; injection h with h _; subst h; simp
            · cases h
          | cons d s =>
            rw [sign] at h
            split at h
            · injection h with h; injection h with h _; subst h; simp
            · split at h
              · injection h with h; injection h with h _; subst h; simp
              · cases h
theorem tk_size {l : Bs} {ts : List Tk} {i : Nat} (h : tk i l = .ok ts) : ∀ t ∈ ts, t.kind ≠ 3 → t.text.length ≤ l.length := fun t ht h3 => by
  obtain ⟨k, c, r, m, hw, hl, _⟩ := tk_words _ i l ts (Nat.lt_succ_self _) h t ht
  exact Nat.le_trans (word_size hw h3) hl

/-- No place lies behind the text. -/
theorem tk_place {l : Bs} {ts : List Tk} {i : Nat} (h : tk i l = .ok ts) : ∀ t ∈ ts, t.at_ ≤ i + l.length := fun t ht => by
  obtain ⟨k, c, r, m, hw, _, hk⟩ := tk_words _ i l ts (Nat.lt_succ_self _) h t ht
  rw [word_at hw]; exact hk
theorem blank_bad_at : ∀ (l : Bs) (m : Bool) (i c a : Nat), blank m i l = .bad c a → a ≤ i + l.length
  | [], m, i, c, a, h => by cases m <;> simp [blank] at h; simp; omega
  | [x], m, i, c, a, h => by
    cases m <;> simp [blank] at h
    · split at h <;> cases h
    · simp; omega
  | x :: d :: r, m, i, c, a, h => by
    rw [blank] at h
    simp only [List.length_cons]
    split at h
    · split at h
      · have := blank_bad_at r _ _ _ _ h; omega
      · have := blank_bad_at (d :: r) _ _ _ _ h; simp at this; omega
    · split at h
      · have := blank_bad_at r _ _ _ _ h; omega
      · split at h
        · have := blank_bad_at (d :: r) _ _ _ _ h; simp at this; omega
        · cases h
theorem quo_bad_at : ∀ (l acc : Bs) (i c a : Nat), quo i acc l = .bad c a → a ≤ i + l.length
  | [], acc, i, c, a, h => by simp [quo] at h; simp; omega
  | [x], acc, i, c, a, h => by
    unfold quo at h
    simp only [List.length_cons, List.length_nil]
    split at h
    · cases h
    · repeat (split at h; · injection h with h h'; omega)
      injection h with h h'; omega
  | x :: d :: r, acc, i, c, a, h => by
    rw [quo] at h
    simp only [List.length_cons]
    split at h
    · cases h
    · split at h
      · injection h with h h'; omega
      · split at h
        · split at h
          · have := quo_bad_at r _ _ _ _ h; omega
          · injection h with h h'; omega
        · have := quo_bad_at (d :: r) _ _ _ _ h; simp at this; omega
theorem word_bad_at {l : Bs} {i c a : Nat} (h : word i l = .bad c a) : a ≤ i + l.length := by
  unfold word at h
  split at h
  · injection h with h h'; omega
  · rename_i x r
    simp only at h
    split at h
    · split at h
      · injection h with h h'; omega
      · cases h
    · split at h
      · split at h
        · injection h with h h'; omega
        · cases h
      · split at h
        · split at h
          · rename_i p q hq
            have := quo_bad_at _ _ _ _ _ hq
            injection h with h h'
            simp; omega
          · cases h
        · cases r with
          | nil =>
            rw [sign] at h
            split at h
            · cases h
            · injection h with h h'; omega
          | cons d s =>
            rw [sign] at h
            split at h
            · cases h
            · split at h
              · cases h
              · injection h with h h'; omega
theorem tk_bad_at_ : ∀ (n i : Nat) (l : Bs) (x y : Nat), l.length < n → tk i l = .bad x y → y ≤ i + l.length
  | 0, _, _, _, _, h, _ => by omega
  | n + 1, i, l, x, y, hn, h => by
    rw [tk_eq] at h
    cases hbl : blank false i l with
    | bad c a =>
      have := blank_bad_at _ _ _ _ _ hbl
      rw [hbl] at h
      injection h with h h'
      omega
    | ok k =>
      have h1 := blank_ge _ _ _ _ hbl
      rw [hbl] at h
      simp only at h
      cases hd : l.drop (k - i) with
      | nil => rw [hd] at h; cases h
      | cons c r =>
        rw [hd] at h
        simp only at h
        have h3 : (c :: r).length = l.length - (k - i) := by rw [← hd, List.length_drop]
        cases hw : word k (c :: r) with
        | bad p q =>
          have := word_bad_at hw
          rw [hw] at h
          injection h with h h'
          omega
        | ok q =>
          obtain ⟨t, m⟩ := q
          have h2 := word_ge hw
          rw [hw] at h
          simp only at h
          cases ht : tk m ((c :: r).drop (m - k)) with
          | ok ts' => rw [ht] at h; cases h
          | bad p q =>
            have := tk_bad_at_ n m _ p q (by rw [List.length_drop]; omega) ht
            rw [ht] at h
            injection h with h h'
            rw [List.length_drop] at this
            omega
theorem tk_bad_at {i : Nat} {l : Bs} {x y : Nat} (h : tk i l = .bad x y) : y ≤ i + l.length := tk_bad_at_ (l.length + 1) i l x y (Nat.lt_succ_self _) h

end Go.Proofs.YtndcbbhfhcjadaaDoor
