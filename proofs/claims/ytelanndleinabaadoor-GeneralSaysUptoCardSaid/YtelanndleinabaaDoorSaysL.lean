/- SaysP, SaysL, joined. -/
import Derived.Test.YtelanndleinabaaDoorSaysR
import Derived.Test.YtelanndleinabaaDoorGAcc
section
/- What Of's automaton is made of; plain. -/
namespace Go.Proofs.YtelanndleinabaaDoor
open Go.RowKit
set_option linter.unusedVariables false

/-! Bits. -/
def subB (a b : Nat) : Prop := ∀ j, a.testBit j = true → b.testBit j = true
theorem subB.refl (a : Nat) : subB a a := fun _ h => h
theorem subB.trans {a b c : Nat} (h : subB a b) (k : subB b c) : subB a c := fun j x => k j (h j x)
theorem subB.orl (a b : Nat) : subB a (a ||| b) := fun j h => by rw [Nat.testBit_or, h]; rfl
theorem subB.orr (a b : Nat) : subB b (a ||| b) := fun j h => by rw [Nat.testBit_or, h]; simp
theorem hasB_iff {yes no x : Nat} : hasB yes no x = true ↔ subB yes x ∧ ∀ j, no.testBit j = true → x.testBit j = false := by
  unfold hasB
  rw [Bool.and_eq_true, beq_iff_eq, beq_iff_eq]
  constructor
  · rintro ⟨h1, h2⟩
    refine ⟨fun j h => ?_, fun j h => ?_⟩
    · have := congrArg (fun z => z.testBit j) h1
      simp only [Nat.testBit_and, h] at this
      simpa using this
    · have := congrArg (fun z => z.testBit j) h2
      simp only [Nat.testBit_and, h, Nat.zero_testBit] at this
      simpa using this
  · rintro ⟨h1, h2⟩
    constructor
    · apply Nat.eq_of_testBit_eq
      intro j
      rw [Nat.testBit_and]
      cases h : yes.testBit j with
      | false => simp
      | true => simp [h1 j h]
    · apply Nat.eq_of_testBit_eq
      intro j
      rw [Nat.testBit_and, Nat.zero_testBit]
      cases h : no.testBit j with
      | false => simp
      | true => simp [h2 j h]
theorem hasB_sub {y n y' n' x : Nat} (h : hasB y' n' x = true) (hy : subB y y') (hn : subB n n') : hasB y n x = true := by
  rw [hasB_iff] at h ⊢
  exact ⟨hy.trans h.1, fun j hj => h.2 j (hn j hj)⟩
theorem hasB_or {y n y' n' x : Nat} (h : hasB y n x = true) (h' : hasB y' n' x = true) : hasB (y ||| y') (n ||| n') x = true := by
  rw [hasB_iff] at *
  refine ⟨fun j hj => ?_, fun j hj => ?_⟩
  · rw [Nat.testBit_or, Bool.or_eq_true] at hj
    exact hj.elim (h.1 j) (h'.1 j)
  · rw [Nat.testBit_or, Bool.or_eq_true] at hj
    exact hj.elim (h.2 j) (h'.2 j)
theorem hasB_fits {y n x : Nat} (h : hasB y n x = true) : y &&& n = 0 := by
  rw [hasB_iff] at h
  apply Nat.eq_of_testBit_eq
  intro j
  rw [Nat.testBit_and, Nat.zero_testBit]
  cases hy : y.testBit j with
  | false => rfl
  | true =>
    cases hn : n.testBit j with
    | false => rfl
    | true => have := h.1 j hy; rw [h.2 j hn] at this; cases this
theorem andNot_iff {a b : Nat} (ha : a < 2 ^ 64) (hb : b < 2 ^ 64) : a &&& (18446744073709551615 - b) = 0 ↔ subB a b := by
  have e : 18446744073709551615 - b = 2 ^ 64 - (b + 1) := by omega
  rw [e]
  constructor
  · intro h j hj
    have := congrArg (fun z => z.testBit j) h
    simp only [Nat.testBit_and, hj, Nat.zero_testBit, Bool.true_and, Nat.testBit_two_pow_sub_succ hb] at this
    have hj64 : j < 64 := by
      apply Classical.byContradiction
      intro hh
      have := Nat.testBit_lt_two_pow (Nat.lt_of_lt_of_le ha (Nat.pow_le_pow_right (by omega) (show 64 ≤ j by omega)))
      rw [this] at hj; cases hj
    simpa [hj64] using this
  · intro h
    apply Nat.eq_of_testBit_eq
    intro j
    rw [Nat.testBit_and, Nat.zero_testBit, Nat.testBit_two_pow_sub_succ hb]
    cases hj : a.testBit j with
    | false => rfl
    | true => simp [h j hj]

/-! Moves. -/
def subM (m x : AMv) : Prop := subB m.yes x.yes ∧ subB m.no x.no ∧ ∀ t ∈ m.to, t ∈ x.to
theorem subM.refl (m : AMv) : subM m m := ⟨.refl _, .refl _, fun _ h => h⟩
theorem subM.trans {a b c : AMv} (h : subM a b) (k : subM b c) : subM a c := ⟨h.1.trans k.1, h.2.1.trans k.2.1, fun t ht => k.2.2 t (h.2.2 t ht)⟩
theorem subM_combl (x y : AMv) : subM x (combA x y) := ⟨.orl _ _, .orl _ _, fun t ht => mem_joinI.2 (.inl ht)⟩
theorem subM_combr (x y : AMv) : subM y (combA x y) := ⟨.orr _ _, .orr _ _, fun t ht => mem_joinI.2 (.inr ht)⟩
theorem hasI_iff {ys : List Int} {x : Int} : hasI ys x = true ↔ x ∈ ys := by
  unfold hasI
  rw [List.any_eq_true]
  constructor
  · rintro ⟨y, hy, e⟩
    have := eq_of_beq e
    rw [this]; exact hy
  · intro h
    exact ⟨x, h, by simp⟩
theorem withinI_iff {a b : List Int} : withinI a b = true ↔ ∀ t ∈ a, t ∈ b := by
  unfold withinI
  rw [Bool.not_eq_true', List.any_eq_false]
  constructor
  · intro h t ht
    have := h t ht
    rw [← hasI_iff]
    simpa using this
  · intro h t ht
    have := hasI_iff.2 (h t ht)
    simp [this]
def MvW (m : AMv) : Prop := m.yes < 2 ^ 64 ∧ m.no < 2 ^ 64
theorem awayB_iff {x y : AMv} {f : Int} (hx : MvW x) (hy : MvW y) : awayB x f y = true ↔ subM y x ∧ f ∉ y.to := by
  unfold awayB subM
  rw [Bool.and_eq_true, Bool.and_eq_true, Bool.and_eq_true, beq_iff_eq, beq_iff_eq, andNot_iff hy.1 hx.1, andNot_iff hy.2 hx.2, Bool.not_eq_true', withinI_iff]
  have e : hasI y.to f = false ↔ f ∉ y.to := by rw [← hasI_iff]; simp
  rw [e]
  exact ⟨fun ⟨⟨⟨a, b⟩, c⟩, d⟩ => ⟨⟨a, b, d⟩, c⟩, fun ⟨⟨a, b, d⟩, c⟩ => ⟨⟨⟨a, b⟩, c⟩, d⟩⟩
theorem sameB_eq {o z : AMv} (h : sameB o z = true) : o = z := by
  unfold sameB at h
  rw [Bool.and_eq_true, Bool.and_eq_true, beq_iff_eq, beq_iff_eq, beq_iff_eq] at h
  obtain ⟨oy, on, ot⟩ := o
  obtain ⟨zy, zn, zt⟩ := z
  obtain ⟨⟨h1, h2⟩, h3⟩ := h
  simp only at h1 h2 h3
  rw [h1, h2, h3]

/-! The row of a set. -/
theorem addA_mem {nx : List AMv} {z x : AMv} (h : x ∈ addA nx z) : x ∈ nx ∨ x = z := by
  unfold addA at h
  split at h
  · rcases List.mem_append.1 h with h | h
    · exact .inl h
    · exact .inr (List.mem_singleton.1 h)
  · exact .inl h
theorem addA_keep {nx : List AMv} {z x : AMv} (h : x ∈ nx) : x ∈ addA nx z := by
  unfold addA
  split
  · exact List.mem_append.2 (.inl h)
  · exact h
theorem addA_new {nx : List AMv} {z : AMv} (h : z.yes &&& z.no = 0) : z ∈ addA nx z := by
  unfold addA fitsA
  rw [h]
  split
  · exact List.mem_append.2 (.inr (List.mem_singleton.2 rfl))
  · next hf =>
    have : (nx.any fun o => sameB o z) = true := by simpa using hf
    obtain ⟨o, ho, e⟩ := List.any_eq_true.1 this
    rw [← sameB_eq e]; exact ho
theorem stepY_mem {x : AMv} : ∀ (ys nx r : List AMv), stepY x ys nx = some r → ∀ z ∈ r, z ∈ nx ∨ ∃ y ∈ ys, z = combA x y
  | [], nx, r, h, z, hz => by
    unfold stepY at h
    injection h with h
    subst h
    exact .inl hz
  | y :: ys, nx, r, h, z, hz => by
    unfold stepY at h
    split at h
    · rcases stepY_mem ys _ r h z hz with h1 | ⟨y', h1, h2⟩
      · rcases addA_mem h1 with h1 | h1
        · exact .inl h1
        · exact .inr ⟨y, List.mem_cons_self .., h1⟩
      · exact .inr ⟨y', List.mem_cons_of_mem _ h1, h2⟩
    · cases h
theorem stepY_has {x : AMv} : ∀ (ys nx r : List AMv), stepY x ys nx = some r → (∀ z ∈ nx, z ∈ r) ∧ ∀ y ∈ ys, (combA x y).yes &&& (combA x y).no = 0 → combA x y ∈ r
  | [], nx, r, h => by
    unfold stepY at h
    injection h with h
    subst h
    exact ⟨fun z hz => hz, fun y hy => by cases hy⟩
  | y :: ys, nx, r, h => by
    unfold stepY at h
    split at h
    · obtain ⟨h1, h2⟩ := stepY_has ys _ r h
      refine ⟨fun z hz => h1 z (addA_keep hz), fun y' hy' hf => ?_⟩
      rcases List.mem_cons.1 hy' with rfl | hy'
      · exact h1 _ (addA_new hf)
      · exact h2 y' hy' hf
    · cases h
theorem stepX_mem {ys : List AMv} : ∀ (xs nx r : List AMv), stepX ys xs nx = some r → ∀ z ∈ r, z ∈ nx ∨ ∃ x ∈ xs, ∃ y ∈ ys, z = combA x y
  | [], nx, r, h, z, hz => by
    unfold stepX at h
    injection h with h
    subst h
    exact .inl hz
  | x :: xs, nx, r, h, z, hz => by
    unfold stepX at h
    cases hs : stepY x ys nx with
    | none => rw [hs] at h; cases h
    | some r1 =>
      rw [hs] at h
      rcases stepX_mem xs r1 r h z hz with h1 | ⟨x', h1, y, h2, h3⟩
      · rcases stepY_mem ys nx r1 hs z h1 with h1 | ⟨y, h1, h2⟩
        · exact .inl h1
        · exact .inr ⟨x, List.mem_cons_self .., y, h1, h2⟩
      · exact .inr ⟨x', List.mem_cons_of_mem _ h1, y, h2, h3⟩
theorem stepX_has {ys : List AMv} : ∀ (xs nx r : List AMv), stepX ys xs nx = some r → (∀ z ∈ nx, z ∈ r) ∧ ∀ x ∈ xs, ∀ y ∈ ys, (combA x y).yes &&& (combA x y).no = 0 → combA x y ∈ r
  | [], nx, r, h => by
    unfold stepX at h
    injection h with h
    subst h
    exact ⟨fun z hz => hz, fun y hy => by cases hy⟩
  | x :: xs, nx, r, h => by
    unfold stepX at h
    cases hs : stepY x ys nx with
    | none => rw [hs] at h; cases h
    | some r1 =>
      rw [hs] at h
      obtain ⟨h1, h2⟩ := stepX_has xs r1 r h
      obtain ⟨k1, k2⟩ := stepY_has ys nx r1 hs
      refine ⟨fun z hz => h1 z (k1 z hz), fun x' hx' y hy hf => ?_⟩
      rcases List.mem_cons.1 hx' with rfl | hx'
      · exact h1 _ (k2 y hy hf)
      · exact h2 x' hx' y hy hf
section
variable {sts : List ASt}
theorem waysRow_sound : ∀ (l : List Int) (row r : List AMv), waysRow sts l row = some r → ∀ x ∈ r, (∃ x0 ∈ row, subM x0 x) ∧ ∀ s ∈ l, ∃ m ∈ movesOf sts s, subM m x
  | [], row, r, h, x, hx => by
    unfold waysRow at h
    injection h with h
    subst h
    exact ⟨⟨x, hx, .refl x⟩, fun s hs => by cases hs⟩
  | s :: l, row, r, h, x, hx => by
    unfold waysRow at h
    cases hs : stepX (movesOf sts s) row [] with
    | none => rw [hs] at h; cases h
    | some r1 =>
      rw [hs] at h
      obtain ⟨⟨x1, h1, h2⟩, h3⟩ := waysRow_sound l r1 r h x hx
      rcases stepX_mem row [] r1 hs x1 h1 with h4 | ⟨x0, h4, y, h5, rfl⟩
      · cases h4
      · refine ⟨⟨x0, h4, (subM_combl x0 y).trans h2⟩, fun s' hs' => ?_⟩
        rcases List.mem_cons.1 hs' with rfl | hs'
        · exact ⟨y, h5, (subM_combr x0 y).trans h2⟩
        · exact h3 s' hs'
theorem waysRow_has {u : Nat} (c : Int → AMv) : ∀ (l : List Int) (row r : List AMv), waysRow sts l row = some r → (∀ s ∈ l, c s ∈ movesOf sts s ∧ hasB (c s).yes (c s).no u = true) → ∀ x0 ∈ row, hasB x0.yes x0.no u = true →
    ∃ x ∈ r, hasB x.yes x.no u = true ∧ subM x0 x ∧ (∀ s ∈ l, subM (c s) x) ∧ ∀ t ∈ x.to, t ∈ x0.to ∨ ∃ s ∈ l, t ∈ (c s).to
  | [], row, r, h, hc, x0, hx0, hu => by
    unfold waysRow at h
    injection h with h
    subst h
    exact ⟨x0, hx0, hu, .refl x0, (fun s hs => by cases hs), fun t ht => .inl ht⟩
  | s :: l, row, r, h, hc, x0, hx0, hu => by
    unfold waysRow at h
    cases hs : stepX (movesOf sts s) row [] with
    | none => rw [hs] at h; cases h
    | some r1 =>
      rw [hs] at h
      obtain ⟨c1, c2⟩ := hc s (List.mem_cons_self ..)
      have hu1 : hasB (combA x0 (c s)).yes (combA x0 (c s)).no u = true := hasB_or hu c2
      obtain ⟨x, h1, h2, h3, h4, h5⟩ := waysRow_has c l r1 r h (fun s' hs' => hc s' (List.mem_cons_of_mem _ hs')) _ ((stepX_has row [] r1 hs).2 x0 hx0 (c s) c1 (hasB_fits hu1)) hu1
      refine ⟨x, h1, h2, (subM_combl _ _).trans h3, fun s' hs' => ?_, fun t ht => ?_⟩
      · rcases List.mem_cons.1 hs' with rfl | hs'
        · exact (subM_combr _ _).trans h3
        · exact h4 s' hs'
      · rcases h5 t ht with h6 | ⟨s', h6, h7⟩
        · rcases mem_joinI.1 h6 with h6 | h6
          · exact .inl h6
          · exact .inr ⟨s, List.mem_cons_self .., h6⟩
        · exact .inr ⟨s', List.mem_cons_of_mem _ h6, h7⟩
theorem combA_w {x y : AMv} (hx : MvW x) (hy : MvW y) : MvW (combA x y) := ⟨Nat.or_lt_two_pow hx.1 hy.1, Nat.or_lt_two_pow hx.2 hy.2⟩
theorem waysRow_w (hw : ∀ s, ∀ m ∈ movesOf sts s, MvW m) : ∀ (l : List Int) (row r : List AMv), (∀ x ∈ row, MvW x) → waysRow sts l row = some r → ∀ x ∈ r, MvW x
  | [], row, r, hr, h => by
    unfold waysRow at h
    injection h with h
    subst h
    exact hr
  | s :: l, row, r, hr, h => by
    unfold waysRow at h
    cases hs : stepX (movesOf sts s) row [] with
    | none => rw [hs] at h; cases h
    | some r1 =>
      rw [hs] at h
      refine waysRow_w hw l r1 r (fun x hx => ?_) h
      rcases stepX_mem row [] r1 hs x hx with h4 | ⟨x0, h4, y, h5, rfl⟩
      · cases h4
      · exact combA_w (hr x0 h4) (hw s y h5)
end

/-! The rows and what comes of them. -/
theorem stateRes_at {rows rows' : List (List Int)} {l : List Int} {i : Nat} (h : stateRes rows l = some (i, rows')) : (∃ ext, rows' = rows ++ ext) ∧ rows'[i]? = some l := by
  unfold stateRes at h
  split at h
  · next hm =>
    injection h with h; injection h with h1 h2; subst h2; subst h1
    refine ⟨⟨[], by simp⟩, ?_⟩
    have hl := List.idxOf_lt_length_of_mem hm
    rw [List.getElem?_eq_getElem hl, List.getElem_idxOf hl]
  · split at h
    · injection h with h; injection h with h1 h2; subst h2; subst h1
      exact ⟨⟨[l], rfl⟩, by simp⟩
    · cases h
theorem at_ext {rows ext : List (List Int)} {i : Nat} {l : List Int} (h : rows[i]? = some l) : (rows ++ ext)[i]? = some l := by
  have := (List.getElem?_eq_some_iff.1 h).1
  rw [List.getElem?_append_left this, h]
def mkM (sts : List ASt) (fin : List Int) (x : AMv) (k : Nat) : Mv := ⟨x.yes, x.no, (k : Int), setsFrom sts x 0 fin 0⟩
theorem outs_at {sts : List ASt} {fin : List Int} : ∀ (row : List AMv) (rows rows' : List (List Int)) (acc out : List Mv), outs sts fin row rows acc = some (out, rows') →
    (∃ ext, rows' = rows ++ ext) ∧ (∀ m ∈ acc, m ∈ out) ∧ (∀ m ∈ out, m ∈ acc ∨ ∃ x ∈ row, ∃ k, rows'[k]? = some x.to ∧ m = mkM sts fin x k) ∧ ∀ x ∈ row, ∃ k, rows'[k]? = some x.to ∧ mkM sts fin x k ∈ out
  | [], rows, rows', acc, out, h => by
    unfold outs at h
    injection h with h
    injection h with h1 h2
    subst h1; subst h2
    exact ⟨⟨[], by simp⟩, fun m hm => hm, fun m hm => .inl hm, fun x hx => by cases hx⟩
  | x :: xs, rows, rows', acc, out, h => by
    unfold outs at h
    cases hs : stateRes rows x.to with
    | none => rw [hs] at h; cases h
    | some p =>
      obtain ⟨i, r1⟩ := p
      rw [hs] at h
      obtain ⟨⟨e1, rfl⟩, g2⟩ := stateRes_at hs
      obtain ⟨⟨e2, rfl⟩, k2, k3, k4⟩ := outs_at xs _ rows' _ out h
      refine ⟨⟨e1 ++ e2, by simp⟩, fun m hm => k2 m (List.mem_append.2 (.inl hm)), fun m hm => ?_, fun y hy => ?_⟩
      · rcases k3 m hm with h1 | ⟨y, h1, k, h2, h3⟩
        · rcases List.mem_append.1 h1 with h1 | h1
          · exact .inl h1
          · exact .inr ⟨x, List.mem_cons_self .., i, at_ext g2, List.mem_singleton.1 h1⟩
        · exact .inr ⟨y, List.mem_cons_of_mem _ h1, k, h2, h3⟩
      · rcases List.mem_cons.1 hy with rfl | hy
        · exact ⟨i, at_ext g2, k2 _ (List.mem_append.2 (.inr (List.mem_singleton.2 rfl)))⟩
        · exact k4 y hy
/-- What stands at a set: the moves of its row, each to its set's number. -/
def OutOk (sts : List ASt) (fin : List Int) (rows : List (List Int)) (l : List Int) (out : List Mv) : Prop :=
  ∃ wr, waysRow sts l [⟨0, 0, []⟩] = some wr ∧ (∀ m ∈ out, ∃ x ∈ wr, ∃ k, rows[k]? = some x.to ∧ m = mkM sts fin x k) ∧ ∀ x ∈ wr, ∃ k, rows[k]? = some x.to ∧ mkM sts fin x k ∈ out
theorem OutOk.ext {sts : List ASt} {fin : List Int} {rows ext : List (List Int)} {l : List Int} {out : List Mv} (h : OutOk sts fin rows l out) : OutOk sts fin (rows ++ ext) l out := by
  obtain ⟨wr, h1, h2, h3⟩ := h
  exact ⟨wr, h1, fun m hm => let ⟨x, a, k, b, c⟩ := h2 m hm; ⟨x, a, k, at_ext b, c⟩, fun x hx => let ⟨k, b, c⟩ := h3 x hx; ⟨k, at_ext b, c⟩⟩
theorem waysRes_at {sts : List ASt} {fin l : List Int} {rows rows' : List (List Int)} {out : List Mv} (h : waysRes sts fin rows l = some (out, rows')) : (∃ ext, rows' = rows ++ ext) ∧ OutOk sts fin rows' l out := by
  unfold waysRes at h
  cases hs : waysRow sts l [⟨0, 0, []⟩] with
  | none => rw [hs] at h; cases h
  | some r =>
    rw [hs] at h
    obtain ⟨k1, _, k3, k4⟩ := outs_at r rows rows' [] out h
    refine ⟨k1, r, hs, fun m hm => ?_, k4⟩
    rcases k3 m hm with h1 | h1
    · cases h1
    · exact h1
theorem ofInit_at : ∀ (ls rows rows' : List (List Int)) (init init' : List Int), ofInit ls rows init = some (rows', init') →
    (∃ ext, rows' = rows ++ ext) ∧ (∀ q ∈ init, q ∈ init') ∧ (∀ q ∈ init', q ∈ init ∨ ∃ l ∈ ls, ∃ k : Nat, q = (k : Int) ∧ rows'[k]? = some l) ∧ ∀ l ∈ ls, ∃ k : Nat, rows'[k]? = some l ∧ (k : Int) ∈ init'
  | [], rows, rows', init, init', h => by
    unfold ofInit at h
    injection h with h
    injection h with h1 h2
    subst h1; subst h2
    exact ⟨⟨[], by simp⟩, fun q hq => hq, fun q hq => .inl hq, fun l hl => by cases hl⟩
  | l :: ls, rows, rows', init, init', h => by
    unfold ofInit at h
    cases hs : stateRes rows l with
    | none => rw [hs] at h; cases h
    | some p =>
      obtain ⟨i, r1⟩ := p
      rw [hs] at h
      obtain ⟨⟨e1, rfl⟩, g2⟩ := stateRes_at hs
      obtain ⟨⟨e2, rfl⟩, k2, k3, k4⟩ := ofInit_at ls _ rows' _ init' h
      have hin : (i : Int) ∈ (if init.any (fun y => (i : Int) == y) then init else init ++ [(i : Int)]) ∧ ∀ q, q ∈ init → q ∈ (if init.any (fun y => (i : Int) == y) then init else init ++ [(i : Int)]) := by
        split
        · next ha =>
          obtain ⟨y, hy, e⟩ := List.any_eq_true.1 ha
          rw [eq_of_beq e]
          exact ⟨hy, fun q hq => hq⟩
        · exact ⟨by simp, fun q hq => List.mem_append.2 (.inl hq)⟩
      have hout : ∀ q, q ∈ (if init.any (fun y => (i : Int) == y) then init else init ++ [(i : Int)]) → q ∈ init ∨ q = (i : Int) := fun q hq => by
        split at hq
        · exact .inl hq
        · rcases List.mem_append.1 hq with hq | hq
          · exact .inl hq
          · exact .inr (List.mem_singleton.1 hq)
      refine ⟨⟨e1 ++ e2, by simp⟩, fun q hq => k2 q (hin.2 q hq), fun q hq => ?_, fun x hx => ?_⟩
      · rcases k3 q hq with h1 | ⟨y, h1, k, h2, h3⟩
        · rcases hout q h1 with h1 | h1
          · exact .inl h1
          · exact .inr ⟨l, List.mem_cons_self .., i, h1, at_ext g2⟩
        · exact .inr ⟨y, List.mem_cons_of_mem _ h1, k, h2, h3⟩
      · rcases List.mem_cons.1 hx with rfl | hx
        · exact ⟨i, at_ext g2, k2 _ hin.1⟩
        · exact k4 x hx
theorem ofGo_at {sts : List ASt} {fin : List Int} : ∀ (f i : Nat) (rows : List (List Int)) (mv : Nat) (acc st : List (List Mv)), i = acc.length → i ≤ rows.length → (∀ (q : Nat) (o : List Mv), acc[q]? = some o → ∃ r, rows[q]? = some r ∧ OutOk sts fin rows r o) → ofGo sts fin f i rows mv acc = some st →
    ∃ ext, st.length = (rows ++ ext).length ∧ ∀ (q : Nat) (o : List Mv), st[q]? = some o → ∃ r, (rows ++ ext)[q]? = some r ∧ OutOk sts fin (rows ++ ext) r o
  | 0, i, rows, mv, acc, st, _, _, _, h => by unfold ofGo at h; cases h
  | f + 1, i, rows, mv, acc, st, hi, hir, ha, h => by
    unfold ofGo at h
    split at h
    · next hlt =>
      cases hs : waysRes sts fin rows rows[i] with
      | none => rw [hs] at h; cases h
      | some p =>
        obtain ⟨o, r1⟩ := p
        rw [hs] at h
        simp only [Option.bind_some] at h
        split at h
        · obtain ⟨⟨e1, rfl⟩, k2⟩ := waysRes_at hs
          obtain ⟨e2, h1, h2⟩ := ofGo_at f (i + 1) (rows ++ e1) _ _ st (by simp; omega) (by simp; omega) (fun q o' hq => by
            by_cases hql : q < acc.length
            · rw [List.getElem?_append_left hql] at hq
              obtain ⟨r, g1, g2⟩ := ha q o' hq
              exact ⟨r, at_ext g1, g2.ext⟩
            · rw [List.getElem?_append_right (by omega)] at hq
              have hq0 : q - acc.length = 0 := by
                have := (List.getElem?_eq_some_iff.1 hq).1
                simp at this
                exact this
              rw [hq0] at hq
              have : o = o' := by simpa using hq
              subst this
              have hqi : q = i := by omega
              subst hqi
              exact ⟨rows[q], at_ext (List.getElem?_eq_getElem hlt), k2⟩) h
          exact ⟨e1 ++ e2, by rw [← List.append_assoc]; exact h1, by rw [← List.append_assoc]; exact h2⟩
        · cases h
    · next hge =>
      injection h with h
      subst h
      exact ⟨[], by simp; omega, by simpa using ha⟩
/-- An automaton made of sets of states. -/
structure MadeOf (a : Alt) (rows : List (List Int)) (g : Gen) : Prop where
  len : g.states.length = rows.length
  sets : g.sets = ((finI a.states 0).length : Int)
  out : ∀ (q : Nat) (r : List Int), rows[q]? = some r → OutOk a.states (finI a.states 0) rows r (g.states.getD q [])
  from_ : ∀ q ∈ g.init, ∃ r ∈ a.init, ∃ k : Nat, q = (k : Int) ∧ rows[k]? = some r
  to_ : ∀ r ∈ a.init, ∃ k : Nat, rows[k]? = some r ∧ (k : Int) ∈ g.init
theorem ofRes_made {a : Alt} {g : Gen} (h : ofRes a = some g) : ∃ rows, MadeOf a rows g := by
  unfold ofRes at h
  split at h
  · cases hs : ofInit a.init [] [] with
    | none => rw [hs] at h; cases h
    | some p =>
      obtain ⟨rows, init⟩ := p
      rw [hs] at h
      simp only [Option.bind_some] at h
      cases hg : ofGo a.states (finI a.states 0) 4097 0 rows 0 [] with
      | none => rw [hg] at h; cases h
      | some st =>
        rw [hg] at h
        simp only [Option.map_some] at h
        injection h with h
        subst h
        obtain ⟨_, _, i3, i4⟩ := ofInit_at a.init [] rows [] init hs
        obtain ⟨ext, o1, o2⟩ := ofGo_at 4097 0 rows 0 [] st rfl (by omega) (fun q o hq => by simp at hq) hg
        refine ⟨rows ++ ext, ⟨o1, rfl, fun q r hr => ?_, fun q hq => ?_, fun r hr => ?_⟩⟩
        · have hq := (List.getElem?_eq_some_iff.1 hr).1
          have hst : st[q]? = some (st[q]'(by omega)) := List.getElem?_eq_getElem _
          obtain ⟨r', g1, g2⟩ := o2 q _ hst
          rw [hr] at g1
          injection g1 with g1
          subst g1
          show OutOk _ _ _ _ (st.getD q [])
          rw [List.getD_eq_getElem?_getD, hst]
          exact g2
        · rcases i3 q hq with h1 | ⟨l, h1, k, h2, h3⟩
          · cases h1
          · exact ⟨l, h1, k, h2, at_ext h3⟩
        · obtain ⟨k, h1, h2⟩ := i4 r hr
          exact ⟨k, at_ext h1, h2⟩
  · cases h

/-! Sets of a move, and the final states. -/
theorem setsFrom_bit (sts : List ASt) (x : AMv) : ∀ (fin : List Int) (i acc j : Nat), (setsFrom sts x i fin acc).testBit j = true ↔ acc.testBit j = true ∨ ∃ k f, fin[k]? = some f ∧ j = i + k ∧ inSet sts x f = true
  | [], i, acc, j => by
    unfold setsFrom
    simp
  | f :: r, i, acc, j => by
    unfold setsFrom
    rw [setsFrom_bit sts x r (i + 1)]
    constructor
    · rintro (h | ⟨k, f', h1, h2, h3⟩)
      · split at h
        · next hs =>
          rw [Nat.testBit_or, Bool.or_eq_true, Nat.testBit_two_pow, decide_eq_true_eq] at h
          rcases h with h | h
          · exact .inl h
          · exact .inr ⟨0, f, rfl, by omega, hs⟩
        · exact .inl h
      · exact .inr ⟨k + 1, f', by simpa using h1, by omega, h3⟩
    · rintro (h | ⟨k, f', h1, h2, h3⟩)
      · left
        split
        · rw [Nat.testBit_or, h]; rfl
        · exact h
      · cases k with
        | zero =>
          left
          have : f = f' := by simpa using h1
          subst this
          rw [if_pos h3, Nat.testBit_or, Bool.or_eq_true, Nat.testBit_two_pow, decide_eq_true_eq]
          exact .inr (by omega)
        | succ k => exact .inr ⟨k, f', by simpa using h1, by omega, h3⟩
theorem finI_iff : ∀ (sts : List ASt) (i : Nat) (f : Int), f ∈ finI sts i ↔ ∃ k : Nat, f = ((i + k : Nat) : Int) ∧ finOf sts k = true
  | [], i, f => by
    unfold finI finOf
    simp
  | s :: r, i, f => by
    have ih := finI_iff r (i + 1) f
    have hz : finOf (s :: r) 0 = s.1 := rfl
    have hs : ∀ k, finOf (s :: r) (k + 1) = finOf r k := fun k => by simp [finOf]
    unfold finI
    constructor
    · intro h
      have h' : (s.1 = true ∧ f = (i : Int)) ∨ f ∈ finI r (i + 1) := by
        split at h
        · next hs1 =>
          rcases List.mem_cons.1 h with h | h
          · exact .inl ⟨hs1, h⟩
          · exact .inr h
        · exact .inr h
      rcases h' with ⟨h1, h2⟩ | h1
      · exact ⟨0, by simpa using h2, by rw [hz]; exact h1⟩
      · obtain ⟨k, e, hk⟩ := ih.1 h1
        exact ⟨k + 1, by rw [e]; congr 1; omega, by rw [hs]; exact hk⟩
    · rintro ⟨k, e, hk⟩
      cases k with
      | zero =>
        rw [hz] at hk
        rw [if_pos hk]
        rw [e]; simp
      | succ k =>
        rw [hs] at hk
        have := ih.2 ⟨k, by rw [e]; congr 1; omega, hk⟩
        split
        · exact List.mem_cons_of_mem _ this
        · exact this
end Go.Proofs.YtelanndleinabaaDoor
end
section
/- Of's automaton accepts what the alternating one does; plain. -/
namespace Go.Proofs.YtelanndleinabaaDoor
open Go.RowKit
set_option linter.unusedVariables false

theorem Rch.head {adj : Adj} {x y : Nat} (h : Rch adj x y) : x = y ∨ ∃ e ∈ adj x, Rch adj e.1 y := by
  induction h with
  | refl => exact .inl rfl
  | tail h1 h2 ih =>
    rcases ih with rfl | ⟨e, he, hr⟩
    · exact .inr ⟨_, h2, .refl⟩
    · exact .inr ⟨e, he, .tail hr h2⟩
/-- What holds at a place of a way, and along each step that still leads to the end, holds at the end. -/
theorem Rch.along {adj : Adj} {z : Nat} (Q : Nat → Prop) (hQ : ∀ x, Q x → ∀ e ∈ adj x, Rch adj e.1 z → Q e.1) {x y : Nat} (h : Rch adj x y) (hy : Rch adj y z) (hx : Q x) : Q y := by
  induction h with
  | refl => exact hx
  | tail h1 h2 ih => exact hQ _ (ih (Rch.trans (.tail .refl h2) hy)) _ h2 hy
theorem rch_one {adj : Adj} {x : Nat} {e : Nat × Nat} (h : e ∈ adj x) : Rch adj x e.1 := .tail .refl h
theorem ones_bit {S j : Nat} : (2 ^ S - 1).testBit j = true ↔ j < S := by rw [Nat.testBit_two_pow_sub_one, decide_eq_true_eq]

section
variable {a : Alt} {g : Gen} {l : Las} {rows : List (List Int)}
/-- The set of a pair. -/
def setOf (rows : List (List Int)) (n x : Nat) : List Int := rows.getD (x % n) []
theorem movesOf_w (hw : ∀ s ∈ a.states, ∀ m ∈ s.2, MvW m) : ∀ s, ∀ m ∈ movesOf a.states s, MvW m := by
  intro s m hm
  unfold movesOf at hm
  rw [List.getD_eq_getElem?_getD] at hm
  cases hs : a.states[s.toNat]? with
  | none => rw [hs] at hm; cases hm
  | some x => rw [hs] at hm; exact hw x (List.mem_of_getElem? hs) m hm
theorem set_at {n x : Nat} (hr : rows.length = n) (hn : 0 < n) : rows[x % n]? = some (setOf rows n x) := by
  have hq : x % n < rows.length := by rw [hr]; exact Nat.mod_lt _ hn
  unfold setOf
  rw [List.getD_eq_getElem?_getD, List.getElem?_eq_getElem hq]; rfl
theorem set_is {n i k : Nat} {r : List Int} (hk : rows[k]? = some r) (hr : rows.length = n) : setOf rows n (i * n + k) = r ∧ (i * n + k) / n = i ∧ (i * n + k) % n = k := by
  have hkn : k < n := by rw [← hr]; exact (List.getElem?_eq_some_iff.1 hk).1
  have h1 : (i * n + k) % n = k := by rw [Nat.mul_comm, Nat.mul_add_mod, Nat.mod_eq_of_lt hkn]
  have h2 : (i * n + k) / n = i := by rw [Nat.mul_comm, Nat.mul_add_div (by omega), Nat.div_eq_of_lt hkn, Nat.add_zero]
  refine ⟨?_, h2, h1⟩
  unfold setOf
  rw [h1, List.getD_eq_getElem?_getD, hk]; rfl
/-- What a step is. -/
theorem step_of (hm : MadeOf a rows g) {n x : Nat} (hr : rows.length = n) (hn : 0 < n) {e : Nat × Nat} (he : e ∈ stepsOf g l x) :
    ∃ z, (∃ wr, waysRow a.states (setOf rows n x) [⟨0, 0, []⟩] = some wr ∧ z ∈ wr) ∧ hasB z.yes z.no (ltr l (x / n)) = true ∧ setOf rows n e.1 = z.to ∧ e.1 / n = nx l (x / n) ∧ e.2 = setsFrom a.states z 0 (finI a.states 0) 0 := by
  obtain ⟨wr, h1, h2, h3⟩ := hm.out _ _ (set_at (x := x) hr hn)
  unfold stepsOf at he
  rw [hm.len, hr] at he
  replace he : e ∈ stepsIn n (nx l (x / n)) (ltr l (x / n)) (g.states.getD (x % n) []) := he
  unfold stepsIn at he
  rw [List.mem_map] at he
  obtain ⟨m, hmm, rfl⟩ := he
  rw [List.mem_filter] at hmm
  obtain ⟨z, hz, k, hk, rfl⟩ := h2 m hmm.1
  have e1 : (stepOf n (nx l (x / n)) (mkM a.states (finI a.states 0) z k)).1 = nx l (x / n) * n + k := by unfold stepOf mkM; simp
  obtain ⟨s1, s2, s3⟩ := set_is (i := nx l (x / n)) hk hr
  exact ⟨z, ⟨wr, h1, hz⟩, hmm.2, by rw [e1]; exact s1, by rw [e1]; exact s2, rfl⟩
theorem step_to (hm : MadeOf a rows g) {n x : Nat} (hr : rows.length = n) (hn : 0 < n) {z : AMv} {wr : List AMv} (hwr : waysRow a.states (setOf rows n x) [⟨0, 0, []⟩] = some wr) (hz : z ∈ wr) (hh : hasB z.yes z.no (ltr l (x / n)) = true) :
    ∃ e ∈ stepsOf g l x, setOf rows n e.1 = z.to ∧ e.1 / n = nx l (x / n) ∧ e.2 = setsFrom a.states z 0 (finI a.states 0) 0 := by
  obtain ⟨wr', h1, h2, h3⟩ := hm.out _ _ (set_at (x := x) hr hn)
  have : wr = wr' := by rw [hwr] at h1; exact Option.some.inj h1
  subst this
  obtain ⟨k, hk, hin⟩ := h3 z hz
  have e1 : (stepOf n (nx l (x / n)) (mkM a.states (finI a.states 0) z k)).1 = nx l (x / n) * n + k := by unfold stepOf mkM; simp
  obtain ⟨s1, s2, s3⟩ := set_is (i := nx l (x / n)) hk hr
  refine ⟨stepOf n (nx l (x / n)) (mkM a.states (finI a.states 0) z k), ?_, by rw [e1]; exact s1, by rw [e1]; exact s2, rfl⟩
  unfold stepsOf
  rw [hm.len, hr]
  show _ ∈ stepsIn n (nx l (x / n)) (ltr l (x / n)) (g.states.getD (x % n) [])
  unfold stepsIn
  exact List.mem_map.2 ⟨_, List.mem_filter.2 ⟨hin, hh⟩, rfl⟩
theorem row_w (hw : ∀ s ∈ a.states, ∀ m ∈ s.2, MvW m) {r : List Int} {wr : List AMv} (h : waysRow a.states r [⟨0, 0, []⟩] = some wr) : ∀ z ∈ wr, MvW z :=
  waysRow_w (movesOf_w hw) r _ wr (fun x hx => by rw [List.mem_singleton] at hx; subst hx; exact ⟨by decide, by decide⟩) h
theorem inSet_iff (hw : ∀ s ∈ a.states, ∀ m ∈ s.2, MvW m) {z : AMv} (hz : MvW z) (f : Int) : inSet a.states z f = true ↔ f ∉ z.to ∨ ∃ m ∈ movesOf a.states f, subM m z ∧ f ∉ m.to := by
  unfold inSet
  rw [Bool.or_eq_true, Bool.not_eq_true', List.any_eq_true]
  have e : hasI z.to f = false ↔ f ∉ z.to := by rw [← hasI_iff]; simp
  rw [e]
  constructor
  · rintro (h | ⟨m, h1, h2⟩)
    · exact .inl h
    · exact .inr ⟨m, h1, (awayB_iff hz (movesOf_w hw f m h1)).1 h2⟩
  · rintro (h | ⟨m, h1, h2⟩)
    · exact .inl h
    · exact .inr ⟨m, h1, (awayB_iff hz (movesOf_w hw f m h1)).2 h2⟩
theorem fitM_iff {run : Nat → Nat → Bool} {s i : Nat} {own : Bool} {m : AMv} : fitM run l s i own m = true ↔ hasB m.yes m.no (ltr l i) = true ∧ (∀ t ∈ m.to, t = (s : Int) ∨ run t.toNat (nx l i) = true) ∧ (own = true ↔ (s : Int) ∈ m.to) := by
  unfold fitM
  rw [Bool.and_eq_true, Bool.and_eq_true, List.all_eq_true, and_assoc]
  refine and_congr_right fun _ => and_congr ?_ ?_
  · constructor
    · intro h t ht
      have := h t ht
      simpa using this
    · intro h t ht
      have := h t ht
      simpa using this
  · have : m.to.any (fun t => t == (s : Int)) = true ↔ (s : Int) ∈ m.to := by
      rw [List.any_eq_true]
      constructor
      · rintro ⟨t, ht, e⟩
        rw [← eq_of_beq e]; exact ht
      · intro h; exact ⟨_, h, by simp⟩
    rw [beq_iff_eq, ← this]
    cases own <;> cases m.to.any (fun t => t == (s : Int)) <;> simp
/-- From the general automaton's part that comes round to the runs. -/
theorem runs_of_good (hok : altOk a = true) (hl : lasCode l = 0) (hw : ∀ s ∈ a.states, ∀ m ∈ s.2, MvW m) (hm : MadeOf a rows g) {n : Nat} (hr : rows.length = n) (hn : 0 < n) {y : Nat} (hg : goodP (stepsOf g l) (2 ^ g.sets.toNat - 1) y) :
    ∀ (s : Nat) (x : Nat), x / n < plN l → Rch (stepsOf g l) x y → (s : Int) ∈ setOf rows n x → runB a.states l s (x / n) = true := by
  have ht := altOk_toOk hok
  intro s
  induction s using Nat.strongRecOn with
  | _ s ih =>
    intro x hx hxy hs
    apply Classical.byContradiction
    intro hbad
    -- a pair that is bad, and a step on from it
    have step : ∀ x, x / n < plN l → (s : Int) ∈ setOf rows n x → runB a.states l s (x / n) ≠ true → ∀ e ∈ stepsOf g l x, Rch (stepsOf g l) e.1 y →
        stepB (runB a.states l) a.states l s (x / n) true = true ∧ e.1 / n = nx l (x / n) ∧ (s : Int) ∈ setOf rows n e.1 ∧ runB a.states l s (e.1 / n) ≠ true ∧ (finOf a.states s = true → ∀ j, (finI a.states 0)[j]? = some (s : Int) → e.2.testBit j = false) := by
      intro x hx hs hbad e he hey
      obtain ⟨z, ⟨wr, hwr, hz⟩, hh, h1, h2, h3⟩ := step_of hm hr hn he
      have hle : ∀ m ∈ movesOf a.states (s : Int), subM m z → hasB m.yes m.no (ltr l (x / n)) = true ∧ ∀ t ∈ m.to, t = (s : Int) ∨ runB a.states l t.toNat (nx l (x / n)) = true := fun m hm' hsub => by
        refine ⟨hasB_sub hh hsub.1 hsub.2.1, fun t htm => ?_⟩
        by_cases e0 : t = (s : Int)
        · exact .inl e0
        · right
          obtain ⟨b1, b2⟩ := ht s m hm' t htm
          have := ih t.toNat (by omega) e.1 (by rw [h2]; exact nx_lt hl hx) hey (by rw [h1, show ((t.toNat : Nat) : Int) = t by omega]; exact hsub.2.2 t htm)
          rwa [h2] at this
      have hno : ∀ m ∈ movesOf a.states (s : Int), subM m z → (s : Int) ∈ m.to := fun m hm' hsub => by
        apply Classical.byContradiction
        intro hnot
        obtain ⟨q1, q2⟩ := hle m hm' hsub
        have : stepB (runB a.states l) a.states l s (x / n) false = true := List.any_eq_true.2 ⟨m, hm', fitM_iff.2 ⟨q1, q2, by simp [hnot]⟩⟩
        exact hbad (by rw [runB_step ht hl hx, this]; rfl)
      obtain ⟨_, hall⟩ := waysRow_sound _ _ _ hwr z hz
      obtain ⟨m, hm', hsub⟩ := hall (s : Int) hs
      obtain ⟨q1, q2⟩ := hle m hm' hsub
      have hin := hno m hm' hsub
      have hst : stepB (runB a.states l) a.states l s (x / n) true = true := List.any_eq_true.2 ⟨m, hm', fitM_iff.2 ⟨q1, q2, by simp [hin]⟩⟩
      refine ⟨hst, h2, by rw [h1]; exact hsub.2.2 _ hin, ?_, ?_⟩
      · rw [h2]
        intro hrun
        exact hbad (by rw [runB_step ht hl hx, hst, hrun]; simp)
      · intro _ j hj
        rw [h3]
        cases hb : (setsFrom a.states z 0 (finI a.states 0) 0).testBit j with
        | false => rfl
        | true =>
          exfalso
          rw [setsFrom_bit] at hb
          rcases hb with hb | ⟨k, f, hk, ek, hin'⟩
          · simp at hb
          · obtain rfl : j = k := by omega
            rw [hj] at hk
            obtain rfl : (s : Int) = f := Option.some.inj hk
            rcases (inSet_iff hw (row_w hw hwr z hz) _).1 hin' with h4 | ⟨m2, h4, h5, h6⟩
            · exact h4 (hsub.2.2 _ hin)
            · exact h6 (hno m2 h4 h5)
    -- it goes on to all that lies on ways to y
    have go : ∀ x', Rch (stepsOf g l) x x' → Rch (stepsOf g l) x' y → (x' / n < plN l ∧ (s : Int) ∈ setOf rows n x' ∧ runB a.states l s (x' / n) ≠ true) := fun x' h1 h2 =>
      Rch.along (fun x => x / n < plN l ∧ (s : Int) ∈ setOf rows n x ∧ runB a.states l s (x / n) ≠ true) (fun x ⟨b1, b2, b3⟩ e he hey => by
        obtain ⟨_, k2, k3, k4, _⟩ := step x b1 b2 b3 e he hey
        exact ⟨by rw [k2]; exact nx_lt hl b1, k3, k4⟩) h1 h2 ⟨hx, hs, hbad⟩
    obtain ⟨⟨e0, k0, ⟨r1, r2⟩, he0, r3, r4⟩, hbits⟩ := hg
    cases hf : finOf a.states s with
    | false =>
      apply hbad
      refine runB_stays ht hf (fun j => ∃ x', Rch (stepsOf g l) x x' ∧ Rch (stepsOf g l) x' y ∧ x' / n = j) ?_ ⟨x, .refl, hxy, rfl⟩
      rintro j ⟨x', h1, h2, rfl⟩
      obtain ⟨b1, b2, b3⟩ := go x' h1 h2
      have hnext : ∃ e ∈ stepsOf g l x', Rch (stepsOf g l) e.1 y := by
        rcases Rch.head (h2.trans r1) with h3 | ⟨e, he, h3⟩
        · rw [h3]; exact ⟨e0, he0, r4⟩
        · exact ⟨e, he, h3.trans r2⟩
      obtain ⟨e, he, hey⟩ := hnext
      obtain ⟨k1, k2, k3, k4, _⟩ := step x' b1 b2 b3 e he hey
      exact ⟨k1, e.1, .tail h1 he, hey, k2⟩
    | true =>
      obtain ⟨j, hj⟩ : ∃ j, (finI a.states 0)[j]? = some (s : Int) := by
        have : (s : Int) ∈ finI a.states 0 := (finI_iff _ _ _).2 ⟨s, by simp, hf⟩
        exact List.getElem?_of_mem this
      have hjl := (List.getElem?_eq_some_iff.1 hj).1
      obtain ⟨e, ⟨k, ⟨s1, s2⟩, he, s3, s4⟩, hbit⟩ := (hbits j).1 (ones_bit.2 (by rw [hm.sets]; simpa using hjl))
      obtain ⟨b1, b2, b3⟩ := go k (hxy.trans s1) s2
      obtain ⟨_, _, _, _, k5⟩ := step k b1 b2 b3 e he s4
      rw [k5 hf j hj] at hbit
      cases hbit
theorem alt_of_gen (hok : altOk a = true) (hl : lasCode l = 0) (hw : ∀ s ∈ a.states, ∀ m ∈ s.2, MvW m) (hm : MadeOf a rows g) (h : accP g l) : altAcc a l = true := by
  obtain ⟨q, hq, y, hy, hg⟩ := h
  obtain ⟨r, hr, k, rfl, hk⟩ := hm.from_ q hq
  have hkn : k < rows.length := (List.getElem?_eq_some_iff.1 hk).1
  have hp : 0 < plN l := by
    unfold lasCode at hl
    unfold plN
    split at hl
    · cases hl
    · omega
  obtain ⟨s1, s2, s3⟩ := set_is (i := 0) hk rfl
  rw [Nat.zero_mul, Nat.zero_add] at s1 s2 s3
  unfold altAcc
  rw [List.any_eq_true]
  refine ⟨r, hr, List.all_eq_true.2 fun s hs => ?_⟩
  have h0 := ((altOk_init hok r hr).2 s hs).1
  have := runs_of_good hok hl hw hm rfl (by omega) hg s.toNat k (by rw [s2]; exact hp) hy (by rw [s1, show ((s.toNat : Nat) : Int) = s by omega]; exact hs)
  rwa [s2] at this

/-! The other way: the best moves. -/
/-- All states of a pair's set run from there. -/
def GoodX (a : Alt) (l : Las) (rows : List (List Int)) (n x : Nat) : Prop := x / n < plN l ∧ ∀ s ∈ setOf rows n x, 0 ≤ s ∧ runB a.states l s.toNat (x / n) = true
def BestE (a : Alt) (g : Gen) (l : Las) (rows : List (List Int)) (n x : Nat) (e : Nat × Nat) : Prop := e ∈ stepsOf g l x ∧ GoodX a l rows n e.1 ∧ e.1 / n = nx l (x / n) ∧ ∃ z, (∃ wr, waysRow a.states (setOf rows n x) [⟨0, 0, []⟩] = some wr ∧ z ∈ wr) ∧ setOf rows n e.1 = z.to ∧ e.2 = setsFrom a.states z 0 (finI a.states 0) 0 ∧
  ∀ s ∈ setOf rows n x, stepB (runB a.states l) a.states l s.toNat (x / n) false = true → ∃ m ∈ movesOf a.states s, subM m z ∧ s ∉ m.to
theorem best (hok : altOk a = true) (hl : lasCode l = 0) (hm : MadeOf a rows g) {n : Nat} (hr : rows.length = n) (hn : 0 < n) {x : Nat} (hx : GoodX a l rows n x) :
    ∃ e, BestE a g l rows n x e := by
  have ht := altOk_toOk hok
  obtain ⟨hx1, hx2⟩ := hx
  have pick : ∀ s ∈ setOf rows n x, ∃ m, m ∈ movesOf a.states s ∧ hasB m.yes m.no (ltr l (x / n)) = true ∧ (∀ t ∈ m.to, 0 ≤ t ∧ runB a.states l t.toNat (nx l (x / n)) = true) ∧ (stepB (runB a.states l) a.states l s.toNat (x / n) false = true → s ∉ m.to) := by
    intro s hs
    obtain ⟨h0, hrun⟩ := hx2 s hs
    have es : ((s.toNat : Nat) : Int) = s := by omega
    cases hlv : stepB (runB a.states l) a.states l s.toNat (x / n) false with
    | true =>
      obtain ⟨m, hmm, hf⟩ := List.any_eq_true.1 hlv
      obtain ⟨f1, f2, f3⟩ := fitM_iff.1 hf
      rw [es] at hmm f3 f2
      have hnot : s ∉ m.to := fun h => by have := f3.2 h; cases this
      refine ⟨m, hmm, f1, fun t htm => ⟨?_, ?_⟩, fun _ => hnot⟩
      · rw [← es] at hmm; exact (ht _ m hmm t htm).1
      · rcases f2 t htm with h1 | h1
        · exact absurd (h1 ▸ htm) hnot
        · exact h1
    | false =>
      rw [runB_step ht hl hx1, hlv, Bool.false_or, Bool.and_eq_true] at hrun
      obtain ⟨hst, hnx⟩ := hrun
      obtain ⟨m, hmm, hf⟩ := List.any_eq_true.1 hst
      obtain ⟨f1, f2, f3⟩ := fitM_iff.1 hf
      rw [es] at hmm f3 f2
      refine ⟨m, hmm, f1, fun t htm => ⟨?_, ?_⟩, fun h => by cases h⟩
      · rw [← es] at hmm; exact (ht _ m hmm t htm).1
      · rcases f2 t htm with h1 | h1
        · rw [h1]; exact hnx
        · exact h1
  obtain ⟨c, hc⟩ : ∃ c : Int → AMv, ∀ s ∈ setOf rows n x, c s ∈ movesOf a.states s ∧ hasB (c s).yes (c s).no (ltr l (x / n)) = true ∧ (∀ t ∈ (c s).to, 0 ≤ t ∧ runB a.states l t.toNat (nx l (x / n)) = true) ∧ (stepB (runB a.states l) a.states l s.toNat (x / n) false = true → s ∉ (c s).to) := by
    refine ⟨fun s => if h : s ∈ setOf rows n x then Classical.choose (pick s h) else ⟨0, 0, []⟩, fun s hs => ?_⟩
    simp only [dif_pos hs]
    exact Classical.choose_spec (pick s hs)
  obtain ⟨wr, hwr, _, _⟩ := hm.out _ _ (set_at (x := x) hr hn)
  obtain ⟨z, hz, hh, _, hsub, hto⟩ := waysRow_has c _ _ wr hwr (fun s hs => ⟨(hc s hs).1, (hc s hs).2.1⟩) ⟨0, 0, []⟩ (List.mem_singleton.2 rfl) (by simp [hasB])
  obtain ⟨e, he, h1, h2, h3⟩ := step_to hm hr hn hwr hz hh
  refine ⟨e, he, ⟨by rw [h2]; exact nx_lt hl hx1, fun t htz => ?_⟩, h2, z, ⟨wr, hwr, hz⟩, h1, h3, fun s hs hlv => ⟨c s, (hc s hs).1, hsub s hs, (hc s hs).2.2.2 hlv⟩⟩
  rw [h1] at htz
  rw [h2]
  rcases hto t htz with h4 | ⟨s, hs, h4⟩
  · cases h4
  · exact (hc s hs).2.2.1 t h4
theorem gen_of_alt (hok : altOk a = true) (hl : lasCode l = 0) (hw : ∀ s ∈ a.states, ∀ m ∈ s.2, MvW m) (hm : MadeOf a rows g) (h : altAcc a l = true) : accP g l := by
  have ht := altOk_toOk hok
  have hp : 0 < plN l := by
    unfold lasCode at hl
    unfold plN
    split at hl
    · cases hl
    · omega
  unfold altAcc at h
  rw [List.any_eq_true] at h
  obtain ⟨r, hr, hall⟩ := h
  rw [List.all_eq_true] at hall
  obtain ⟨k, hk, hkg⟩ := hm.to_ r hr
  obtain ⟨n, hnn⟩ : ∃ n, rows.length = n := ⟨_, rfl⟩
  have hkn : k < n := by rw [← hnn]; exact (List.getElem?_eq_some_iff.1 hk).1
  have hn : 0 < n := by omega
  obtain ⟨s1, s2, s3⟩ := set_is (i := 0) hk hnn
  rw [Nat.zero_mul, Nat.zero_add] at s1 s2 s3
  have hgood : GoodX a l rows n k := ⟨by rw [s2]; exact hp, fun s hs => by
    rw [s1] at hs
    rw [s2]
    exact ⟨((altOk_init hok r hr).2 s hs).1, hall s hs⟩⟩
  -- the best step from each good pair
  obtain ⟨E, hE⟩ : ∃ E : Nat → Nat × Nat, ∀ x, GoodX a l rows n x → BestE a g l rows n x (E x) := by
    haveI : ∀ x, Decidable (∃ e, BestE a g l rows n x e) := fun x => Classical.propDecidable _
    refine ⟨fun x => if h : ∃ e, BestE a g l rows n x e then Classical.choose h else (0, 0), fun x hx => ?_⟩
    have h := best hok hl hm hnn hn hx
    simp only [dif_pos h]
    exact Classical.choose_spec h
  obtain ⟨F, hF⟩ : ∃ F : Nat → Nat, F = fun x => (E x).1 := ⟨_, rfl⟩
  have hX : ∀ t, GoodX a l rows n (it F t k) := fun t => by
    induction t with
    | zero => exact hgood
    | succ t ih => rw [it_succ, hF]; exact (hE _ (hF ▸ ih)).2.1
  have hS : ∀ t, E (it F t k) ∈ stepsOf g l (it F t k) ∧ (E (it F t k)).1 = it F (t + 1) k := fun t => ⟨(hE _ (hX t)).1, by rw [it_succ, hF]⟩
  have hR : ∀ t d, Rch (stepsOf g l) (it F t k) (it F (t + d) k) := fun t d => by
    induction d with
    | zero => exact .refl
    | succ d ih =>
      have := Rch.tail ih (hS (t + d)).1
      rw [(hS (t + d)).2] at this
      exact this
  have hbound : ∀ t, it F t k < plN l * n := fun t => by
    have h1 := (hX t).1
    have h2 := Nat.div_add_mod (it F t k) n
    have h3 := Nat.mod_lt (it F t k) hn
    have h4 : n * (it F t k / n) + n ≤ n * plN l := by rw [← Nat.mul_succ]; exact Nat.mul_le_mul_left _ h1
    rw [Nat.mul_comm (plN l)]
    omega
  obtain ⟨A, B, hAB, _, heq⟩ := pigeon (fun t => it F t k) (fun t _ => hbound t)
  replace heq : it F A k = it F B k := heq
  obtain ⟨p, hpp⟩ : ∃ p, B = A + p := ⟨B - A, by omega⟩
  subst hpp
  have hper : ∀ m, it F (A + m * p) k = it F A k := fun m => by
    induction m with
    | zero => simp
    | succ m ih => rw [Nat.succ_mul, ← Nat.add_assoc, it_add, ih, ← it_add, heq]
  have hscc : ∀ d, Rch (stepsOf g l) (it F A k) (it F (A + d) k) ∧ Rch (stepsOf g l) (it F (A + d) k) (it F A k) := fun d => by
    refine ⟨hR A d, ?_⟩
    have h1 : d ≤ d * p := Nat.le_mul_of_pos_right _ (by omega)
    have := hR (A + d) (d * p - d)
    rw [show A + d + (d * p - d) = A + d * p by omega, hper] at this
    exact this
  have hin : ∀ d, inScc (stepsOf g l) (it F A k) (E (it F (A + d) k)) := fun d =>
    ⟨it F (A + d) k, hscc d, (hS (A + d)).1, by rw [(hS (A + d)).2]; exact hscc (d + 1)⟩
  refine ⟨(k : Int), hkg, it F A k, ?_, ⟨_, hin 0⟩, fun j => ?_⟩
  · have := hR 0 A
    rw [Nat.zero_add] at this
    rw [Int.toNat_natCast]
    exact this
  · rw [ones_bit, hm.sets, Int.toNat_natCast]
    constructor
    · intro hj
      apply Classical.byContradiction
      intro hnone
      obtain ⟨f, hf⟩ : ∃ f, (finI a.states 0)[j]? = some f := ⟨_, List.getElem?_eq_getElem hj⟩
      obtain ⟨s, es, hfin⟩ := (finI_iff a.states 0 f).1 (List.mem_of_getElem? hf)
      rw [Nat.zero_add] at es
      subst es
      -- the final state is there for ever, and never leaves
      have hev : ∀ d, (s : Int) ∈ setOf rows n (it F (A + d + 1) k) ∧ ((s : Int) ∈ setOf rows n (it F (A + d) k) → stepB (runB a.states l) a.states l s (it F (A + d) k / n) false ≠ true) := fun d => by
        obtain ⟨_, _, _, z, ⟨wr, hwr, hz⟩, h1, h2, h3⟩ := hE _ (hX (A + d))
        have hno : ¬ (inSet a.states z (s : Int) = true) := fun hi => hnone ⟨E (it F (A + d) k), hin d, by
          rw [h2, setsFrom_bit]
          exact .inr ⟨j, _, hf, by omega, hi⟩⟩
        rw [inSet_iff hw (row_w hw hwr z hz)] at hno
        have hto : (s : Int) ∈ z.to := Classical.byContradiction fun h => hno (.inl h)
        refine ⟨by rw [← (hS (A + d)).2, h1]; exact hto, fun hs hlv => ?_⟩
        obtain ⟨m, m1, m2, m3⟩ := h3 (s : Int) hs (by rw [Int.toNat_natCast]; exact hlv)
        exact hno (.inr ⟨m, m1, m2, m3⟩)
      have hpl : ∀ d, it F (A + 1 + d) k / n = it (nx l) d (it F (A + 1) k / n) := fun d => by
        induction d with
        | zero => rfl
        | succ d ih =>
          rw [it_succ, ← ih, ← (hE _ (hX (A + 1 + d))).2.2.1, (hS (A + 1 + d)).2]
          rfl
      have hrun : runB a.states l s (it F (A + 1) k / n) = true := by
        have := ((hX (A + 1)).2 (s : Int) (hev 0).1).2
        rwa [Int.toNat_natCast] at this
      obtain ⟨d, hd⟩ := runB_leaves ht hfin hrun
      rw [← hpl d, show A + 1 + d = A + (d + 1) by omega] at hd
      exact (hev (d + 1)).2 (hev d).1 hd
    · rintro ⟨e, ⟨k', _, he, _⟩, hbit⟩
      obtain ⟨z, _, _, _, _, h3⟩ := step_of hm hnn hn he
      rw [h3, setsFrom_bit] at hbit
      rcases hbit with hb | ⟨k2, f, hk2, ek, _⟩
      · simp at hb
      · have := (List.getElem?_eq_some_iff.1 hk2).1
        omega
end
/-- Of's automaton accepts just the words that the alternating one accepts. -/
theorem ofRes_says {a : Alt} {g : Gen} {l : Las} (hok : altOk a = true) (hl : lasCode l = 0) (hw : ∀ s ∈ a.states, ∀ m ∈ s.2, MvW m) (h : ofRes a = some g) : accP g l ↔ altAcc a l = true := by
  obtain ⟨rows, hm⟩ := ofRes_made h
  exact ⟨alt_of_gen hok hl hw hm, gen_of_alt hok hl hw hm⟩
end Go.Proofs.YtelanndleinabaaDoor
end
