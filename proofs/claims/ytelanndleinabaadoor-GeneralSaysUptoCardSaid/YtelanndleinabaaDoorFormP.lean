/- Of's automaton is one that may be; of five states and twelve moves there always is one. -/
import Derived.Test.YtelanndleinabaaDoorOfP
namespace Go.Proofs.YtelanndleinabaaDoor
open Go.RowKit
set_option linter.unusedVariables false

theorem nodup_sub_len {A : Type} [DecidableEq A] : ∀ (xs ys : List A), xs.Nodup → (∀ x ∈ xs, x ∈ ys) → xs.length ≤ ys.length
  | [], ys, _, _ => by simp
  | x :: r, ys, hn, hs => by
    have hx := hs x (List.mem_cons_self ..)
    rw [List.nodup_cons] at hn
    have := nodup_sub_len r (ys.erase x) hn.2 fun y hy => (List.mem_erase_of_ne (fun e => hn.1 (by rw [← e]; exact hy))).2 (hs y (List.mem_cons_of_mem _ hy))
    rw [List.length_erase_of_mem hx] at this
    have := List.length_pos_of_mem hx
    rw [List.length_cons]
    omega

/-! The sets of numbers below N. -/
def allS : Nat → List (List Int)
  | 0 => [[]]
  | N + 1 => allS N ++ (allS N).map (· ++ [(N : Int)])
theorem allS_len : ∀ N, (allS N).length = 2 ^ N
  | 0 => rfl
  | N + 1 => by unfold allS; rw [List.length_append, List.length_map, allS_len N, Nat.pow_succ]; omega
theorem setN_all : ∀ (N : Nat) (l : List Int), SetN N l → l ∈ allS N
  | 0, l, h => by
    have := h.len
    have : l = [] := List.length_eq_zero_iff.1 (by omega)
    subst this; simp [allS]
  | N + 1, l, h => by
    unfold allS
    rw [List.mem_append, List.mem_map]
    rcases List.eq_nil_or_concat l with rfl | ⟨y, a, rfl⟩
    · exact .inl (setN_all N [] (SetN.nil N))
    · rw [List.concat_eq_append] at h ⊢
      obtain ⟨h1, h2⟩ := h
      rw [List.pairwise_append] at h1
      obtain ⟨p1, _, p3⟩ := h1
      have ha := h2 a (by simp)
      have hy : ∀ x ∈ y, 0 ≤ x ∧ x < a := fun x hx => ⟨(h2 x (by simp [hx])).1, p3 x hx a (by simp)⟩
      by_cases he : a = (N : Int)
      · subst he
        exact .inr ⟨y, setN_all N y ⟨p1, hy⟩, rfl⟩
      · refine .inl (setN_all N _ ⟨?_, ?_⟩)
        · rw [List.pairwise_append]
          exact ⟨p1, by simp, p3⟩
        · intro x hx
          rcases List.mem_append.1 hx with hx | hx
          · have := hy x hx; omega
          · rw [List.mem_singleton] at hx; subst hx; omega
theorem sets_count {N : Nat} {rows : List (List Int)} (h : ∀ x ∈ rows, SetN N x) (hd : rows.Nodup) : rows.length ≤ 2 ^ N := by
  rw [← allS_len N]
  exact nodup_sub_len rows _ hd fun x hx => setN_all N x (h x hx)

/-! What state does to the rows. -/
theorem stateRes_grow {rows rows' : List (List Int)} {l : List Int} {i : Nat} (h : stateRes rows l = some (i, rows')) : rows.length ≤ rows'.length ∧ i < rows'.length ∧ (rows.length ≤ 4096 → rows'.length ≤ 4096) ∧ (rows.Nodup → rows'.Nodup) := by
  unfold stateRes at h
  split at h
  · next hm =>
    injection h with h; injection h with h1 h2; subst h2; subst h1
    exact ⟨Nat.le_refl _, List.idxOf_lt_length_of_mem hm, id, id⟩
  · next hm =>
    split at h
    · next hl =>
      injection h with h; injection h with h1 h2; subst h2; subst h1
      refine ⟨by simp, by simp, fun _ => by simp; omega, fun hd => ?_⟩
      rw [List.nodup_append]
      exact ⟨hd, by simp, fun a ha b hb e => hm (by rw [List.mem_singleton] at hb; subst hb; exact e ▸ ha)⟩
    · cases h
theorem stateRes_some {rows : List (List Int)} {l : List Int} (h : rows.length < 4096) : ∃ p, stateRes rows l = some p := by
  unfold stateRes
  split
  · exact ⟨_, rfl⟩
  · exact ⟨_, rfl⟩

/-! Guards. -/
theorem addA_fits {nx : List AMv} {z : AMv} (h : ∀ x ∈ nx, x.yes &&& x.no = 0) : ∀ x ∈ addA nx z, x.yes &&& x.no = 0 := by
  unfold addA
  split
  · next hf =>
    intro x hx
    rcases List.mem_append.1 hx with hx | hx
    · exact h x hx
    · rw [List.mem_singleton] at hx; subst hx
      unfold fitsA at hf
      rw [Bool.and_eq_true] at hf
      exact eq_of_beq hf.1
  · exact h
theorem stepY_fits {x : AMv} : ∀ (ys nx r : List AMv), (∀ y ∈ nx, y.yes &&& y.no = 0) → stepY x ys nx = some r → ∀ y ∈ r, y.yes &&& y.no = 0
  | [], nx, r, hn, h => by
    unfold stepY at h
    injection h with h
    subst h
    exact hn
  | y :: ys, nx, r, hn, h => by
    unfold stepY at h
    split at h
    · exact stepY_fits ys _ r (addA_fits hn) h
    · cases h
theorem stepX_fits {ys : List AMv} : ∀ (xs nx r : List AMv), (∀ y ∈ nx, y.yes &&& y.no = 0) → stepX ys xs nx = some r → ∀ y ∈ r, y.yes &&& y.no = 0
  | [], nx, r, hn, h => by
    unfold stepX at h
    injection h with h
    subst h
    exact hn
  | x :: xs, nx, r, hn, h => by
    unfold stepX at h
    cases hs : stepY x ys nx with
    | none => rw [hs] at h; cases h
    | some r1 =>
      rw [hs] at h
      exact stepX_fits xs r1 r (stepY_fits ys nx r1 hn hs) h
theorem waysRow_fits {sts : List ASt} : ∀ (l : List Int) (row r : List AMv), (∀ y ∈ row, y.yes &&& y.no = 0) → waysRow sts l row = some r → ∀ y ∈ r, y.yes &&& y.no = 0
  | [], row, r, hn, h => by
    unfold waysRow at h
    injection h with h
    subst h
    exact hn
  | s :: l, row, r, hn, h => by
    unfold waysRow at h
    cases hs : stepX (movesOf sts s) row [] with
    | none => rw [hs] at h; cases h
    | some r1 =>
      rw [hs] at h
      exact waysRow_fits l r1 r (stepX_fits row [] r1 (fun y hy => by cases hy) hs) h
theorem setsFrom_small (sts : List ASt) (x : AMv) : ∀ (fin : List Int) (i acc : Nat), acc < 2 ^ i → setsFrom sts x i fin acc < 2 ^ (i + fin.length)
  | [], i, acc, h => h
  | f :: r, i, acc, h => by
    unfold setsFrom
    rw [List.length_cons, show i + (r.length + 1) = i + 1 + r.length by omega]
    refine setsFrom_small sts x r (i + 1) _ ?_
    split
    · exact Nat.or_lt_two_pow (Nat.lt_of_lt_of_le h (Nat.pow_le_pow_right (by omega) (by omega))) (Nat.pow_lt_pow_right (by omega) (by omega))
    · exact Nat.lt_of_lt_of_le h (Nat.pow_le_pow_right (by omega) (by omega))
/-- A move as it may be, in an automaton of n states and S sets. -/
def MvOk (n S : Nat) (m : Mv) : Prop := m.yes &&& m.no = 0 ∧ 0 ≤ m.to ∧ m.to < (n : Int) ∧ m.sets < 2 ^ S
theorem MvOk.more {n n' S : Nat} {m : Mv} (h : MvOk n S m) (hn : n ≤ n') : MvOk n' S m := ⟨h.1, h.2.1, by have := h.2.2.1; omega, h.2.2.2⟩
theorem MvOk.ok {n S : Nat} {m : Mv} (h : MvOk n S m) : mvOk n S m = true := by
  obtain ⟨h1, h2, h3, h4⟩ := h
  unfold mvOk inR
  simp only [Bool.and_eq_true, beq_iff_eq, decide_eq_true_eq]
  exact ⟨⟨h1, h2, h3⟩, Nat.div_eq_of_lt h4⟩
theorem outs_ok {sts : List ASt} {fin : List Int} : ∀ (row : List AMv) (rows rows' : List (List Int)) (acc out : List Mv), (∀ y ∈ row, y.yes &&& y.no = 0) → (∀ m ∈ acc, MvOk rows.length fin.length m) → outs sts fin row rows acc = some (out, rows') →
    (∀ m ∈ out, MvOk rows'.length fin.length m) ∧ rows.length ≤ rows'.length ∧ (rows.length ≤ 4096 → rows'.length ≤ 4096) ∧ (rows.Nodup → rows'.Nodup)
  | [], rows, rows', acc, out, _, ha, h => by
    unfold outs at h
    injection h with h
    injection h with h1 h2
    subst h1; subst h2
    exact ⟨ha, Nat.le_refl _, id, id⟩
  | x :: xs, rows, rows', acc, out, hr, ha, h => by
    unfold outs at h
    cases hs : stateRes rows x.to with
    | none => rw [hs] at h; cases h
    | some p =>
      obtain ⟨i, r1⟩ := p
      rw [hs] at h
      obtain ⟨g1, g2, g3, g4⟩ := stateRes_grow hs
      obtain ⟨k1, k2, k3, k4⟩ := outs_ok xs r1 rows' _ out (fun y hy => hr y (List.mem_cons_of_mem _ hy)) (fun m hm => by
        rcases List.mem_append.1 hm with hm | hm
        · exact (ha m hm).more g1
        · rw [List.mem_singleton] at hm; subst hm
          refine ⟨hr x (List.mem_cons_self ..), by simp, by show (i : Int) < (r1.length : Int); omega, ?_⟩
          have := setsFrom_small sts x fin 0 0 (by simp)
          rw [Nat.zero_add] at this
          exact this) h
      exact ⟨k1, by omega, fun q => k3 (g3 q), fun q => k4 (g4 q)⟩
theorem waysRes_ok {sts : List ASt} {fin l : List Int} {rows rows' : List (List Int)} {out : List Mv} (h : waysRes sts fin rows l = some (out, rows')) :
    (∀ m ∈ out, MvOk rows'.length fin.length m) ∧ rows.length ≤ rows'.length ∧ (rows.length ≤ 4096 → rows'.length ≤ 4096) ∧ (rows.Nodup → rows'.Nodup) := by
  unfold waysRes at h
  cases hs : waysRow sts l [⟨0, 0, []⟩] with
  | none => rw [hs] at h; cases h
  | some r =>
    rw [hs] at h
    exact outs_ok r rows rows' [] out (waysRow_fits l _ r (fun y hy => by rw [List.mem_singleton] at hy; subst hy; rfl) hs) (fun m hm => by cases hm) h
theorem ofInit_ok : ∀ (ls rows rows' : List (List Int)) (init init' : List Int), (∀ x ∈ init, 0 ≤ x ∧ x < (rows.length : Int)) → init.Nodup → rows.length ≤ 4096 → rows.Nodup → ofInit ls rows init = some (rows', init') →
    (∀ x ∈ init', 0 ≤ x ∧ x < (rows'.length : Int)) ∧ init'.Nodup ∧ rows'.length ≤ 4096 ∧ rows'.Nodup
  | [], rows, rows', init, init', hi, hd, hr, hn, h => by
    unfold ofInit at h
    injection h with h
    injection h with h1 h2
    subst h1; subst h2
    exact ⟨hi, hd, hr, hn⟩
  | l :: ls, rows, rows', init, init', hi, hd, hr, hn, h => by
    unfold ofInit at h
    cases hs : stateRes rows l with
    | none => rw [hs] at h; cases h
    | some p =>
      obtain ⟨i, r1⟩ := p
      rw [hs] at h
      obtain ⟨g1, g2, g3, g4⟩ := stateRes_grow hs
      have hi1 : ∀ x ∈ init, 0 ≤ x ∧ x < (r1.length : Int) := fun x hx => ⟨(hi x hx).1, by have := (hi x hx).2; omega⟩
      refine ofInit_ok ls r1 rows' _ init' ?_ ?_ (g3 hr) (g4 hn) h
      · split
        · exact hi1
        · intro x hx
          rcases List.mem_append.1 hx with hx | hx
          · exact hi1 x hx
          · rw [List.mem_singleton] at hx; subst hx; exact ⟨by simp, by show (i : Int) < (r1.length : Int); omega⟩
      · split
        · exact hd
        · next ha =>
          rw [List.nodup_append]
          refine ⟨hd, by simp, fun a ha' b hb e => ha ?_⟩
          rw [List.mem_singleton] at hb
          rw [List.any_eq_true]
          exact ⟨a, ha', by simp [e, hb]⟩
theorem ofGo_ok {sts : List ASt} {fin : List Int} : ∀ (f i : Nat) (rows : List (List Int)) (mv : Nat) (acc st : List (List Mv)), i = acc.length → i ≤ rows.length → rows.length ≤ 4096 → (∀ l ∈ acc, ∀ m ∈ l, MvOk rows.length fin.length m) → mv = (acc.map List.length).sum → mv ≤ 131072 → ofGo sts fin f i rows mv acc = some st →
    (∀ l ∈ st, ∀ m ∈ l, MvOk st.length fin.length m) ∧ rows.length ≤ st.length ∧ st.length ≤ 4096 ∧ (st.map List.length).sum ≤ 131072
  | 0, i, rows, mv, acc, st, _, _, _, _, _, _, h => by unfold ofGo at h; cases h
  | f + 1, i, rows, mv, acc, st, hi, hir, hr, ha, hm, hm2, h => by
    unfold ofGo at h
    split at h
    · next hlt =>
      cases hs : waysRes sts fin rows rows[i] with
      | none => rw [hs] at h; cases h
      | some p =>
        obtain ⟨o, r1⟩ := p
        rw [hs] at h
        simp only [Option.bind_some] at h
        split at h
        · next hle =>
          obtain ⟨k1, k2, k3, k4⟩ := waysRes_ok hs
          have := ofGo_ok f (i + 1) r1 _ _ st (by simp; omega) (by omega) (k3 hr) (fun l hl m hml => by
            rcases List.mem_append.1 hl with hl | hl
            · exact (ha l hl m hml).more k2
            · rw [List.mem_singleton] at hl; subst hl; exact k1 m hml) (by simp; omega) hle h
          exact ⟨this.1, by omega, this.2.2⟩
        · cases h
    · next hge =>
      injection h with h
      subst h
      have : acc.length = rows.length := by omega
      exact ⟨fun l hl m hml => by rw [this]; exact ha l hl m hml, by omega, by omega, by omega⟩
theorem ofRes_ok {a : Alt} {g : Gen} (h : ofRes a = some g) : genOk g = true := by
  unfold ofRes at h
  split at h
  · next hf =>
    cases hs : ofInit a.init [] [] with
    | none => rw [hs] at h; cases h
    | some p =>
      obtain ⟨rows, init⟩ := p
      rw [hs] at h
      simp only [Option.bind_some] at h
      cases hg : ofGo a.states (finI a.states 0) 4097 0 rows 0 [] with
      | none => rw [hg] at h; cases h
      | some st =>
        rw [hg] at h
        simp only [Option.map_some] at h
        injection h with h
        subst h
        obtain ⟨i1, i2, i3, i4⟩ := ofInit_ok a.init [] rows [] init (by simp) (by simp) (by simp) (by simp) hs
        obtain ⟨o1, o2, o3, o4⟩ := ofGo_ok 4097 0 rows 0 [] st rfl (by omega) i3 (by simp) rfl (by omega) hg
        have hil : init.length ≤ 4096 := by
          have := nodup_sub_len init ((List.range rows.length).map fun k => ((k : Nat) : Int)) i2 fun x hx => by
            obtain ⟨q1, q2⟩ := i1 x hx
            rw [List.mem_map]
            exact ⟨x.toNat, List.mem_range.2 (by omega), by omega⟩
          simp at this
          omega
        unfold genOk
        simp only [Bool.and_eq_true, decide_eq_true_eq, List.all_eq_true]
        refine ⟨⟨⟨⟨by omega, by omega, o3, hil⟩, fun x hx => ?_⟩, fun l hl m hm => ?_⟩, o4⟩
        · unfold inR
          rw [Bool.and_eq_true, decide_eq_true_eq, decide_eq_true_eq]
          have := i1 x hx
          exact ⟨this.1, by show x < (st.length : Int); omega⟩
        · have := (o1 l hl m hm).ok
          rw [Int.toNat_natCast]
          exact this
  · cases h
theorem ofOut_ok (a : Alt) : genOk (ofOut a).2 = true := by
  unfold ofOut
  split
  · cases h : ofRes a with
    | none => decide
    | some g => exact ofRes_ok h
  · decide

/-! Few states and moves. -/
theorem addA_len (nx : List AMv) (z : AMv) : (addA nx z).length ≤ nx.length + 1 := by
  unfold addA
  split
  · simp
  · omega
theorem stepY_few {x : AMv} : ∀ (ys nx : List AMv), nx.length + ys.length ≤ 4096 → ∃ r, stepY x ys nx = some r ∧ r.length ≤ nx.length + ys.length
  | [], nx, _ => ⟨nx, rfl, by simp⟩
  | y :: ys, nx, h => by
    have h1 := addA_len nx (combA x y)
    rw [List.length_cons] at h
    obtain ⟨r, e, hr⟩ := stepY_few (x := x) ys (addA nx (combA x y)) (by omega)
    refine ⟨r, ?_, by rw [List.length_cons]; omega⟩
    unfold stepY
    rw [if_pos (by omega)]
    exact e
theorem stepX_few {ys : List AMv} : ∀ (xs nx : List AMv), nx.length + xs.length * ys.length ≤ 4096 → ∃ r, stepX ys xs nx = some r ∧ r.length ≤ nx.length + xs.length * ys.length
  | [], nx, _ => ⟨nx, rfl, by simp⟩
  | x :: xs, nx, h => by
    rw [List.length_cons, Nat.succ_mul] at h
    obtain ⟨r, e, hr⟩ := stepY_few (x := x) ys nx (by omega)
    obtain ⟨r2, e2, hr2⟩ := stepX_few (ys := ys) xs r (by omega)
    refine ⟨r2, ?_, by rw [List.length_cons, Nat.succ_mul]; omega⟩
    unfold stepX
    rw [e]
    exact e2
def wayN (sts : List ASt) (l : List Int) : Nat := (l.map fun s => (movesOf sts s).length).sum
theorem waysRow_few {sts : List ASt} : ∀ (l : List Int) (row : List AMv), row.length * 2 ^ wayN sts l ≤ 4096 → ∃ r, waysRow sts l row = some r
  | [], row, _ => ⟨row, rfl⟩
  | s :: l, row, h => by
    have e : wayN sts (s :: l) = (movesOf sts s).length + wayN sts l := by simp [wayN]
    rw [e, Nat.pow_add, ← Nat.mul_assoc] at h
    have h1 : (movesOf sts s).length ≤ 2 ^ (movesOf sts s).length := Nat.le_of_lt Nat.lt_two_pow_self
    have h2 : 1 ≤ 2 ^ wayN sts l := Nat.one_le_two_pow
    have h3 : row.length * (movesOf sts s).length ≤ row.length * 2 ^ (movesOf sts s).length := Nat.mul_le_mul_left _ h1
    have h4 : row.length * 2 ^ (movesOf sts s).length * 1 ≤ row.length * 2 ^ (movesOf sts s).length * 2 ^ wayN sts l := Nat.mul_le_mul_left _ h2
    obtain ⟨r, e1, hr⟩ := stepX_few (ys := movesOf sts s) row [] (by simp; omega)
    have h5 : r.length * 2 ^ wayN sts l ≤ row.length * 2 ^ (movesOf sts s).length * 2 ^ wayN sts l := Nat.mul_le_mul_right _ (by simp at hr; omega)
    obtain ⟨r2, e2⟩ := waysRow_few (sts := sts) l r (by omega)
    refine ⟨r2, ?_⟩
    unfold waysRow
    rw [e1]
    exact e2
theorem movesN_drop (sts : List ASt) (m k : Nat) (h : m ≤ k) : movesN (sts.drop k) ≤ movesN (sts.drop m) := by
  have e : sts.drop k = (sts.drop m).drop (k - m) := by rw [List.drop_drop]; congr 1; omega
  rw [e]
  unfold movesN
  have : sts.drop m = (sts.drop m).take (k - m) ++ (sts.drop m).drop (k - m) := (List.take_append_drop _ _).symm
  conv => rhs; rw [this]
  rw [List.map_append, List.sum_append]
  omega
theorem movesN_at (sts : List ASt) (k : Nat) : (movesOf sts (k : Int)).length + movesN (sts.drop (k + 1)) ≤ movesN (sts.drop k) := by
  by_cases hk : k < sts.length
  · rw [List.drop_eq_getElem_cons hk]
    unfold movesOf movesN
    rw [Int.toNat_natCast, List.getD_eq_getElem?_getD, List.getElem?_eq_getElem hk, List.map_cons, List.sum_cons]
    exact Nat.le_refl _
  · unfold movesOf movesN
    rw [Int.toNat_natCast, List.getD_eq_getElem?_getD, List.getElem?_eq_none (by omega), List.drop_eq_nil_of_le (by omega), List.drop_eq_nil_of_le (by omega)]
    simp
theorem wayN_le (sts : List ASt) : ∀ (l : List Int) (m : Nat), l.Pairwise (· < ·) → (∀ x ∈ l, (m : Int) ≤ x) → wayN sts l ≤ movesN (sts.drop m)
  | [], m, _, _ => by simp [wayN]
  | x :: r, m, hp, hb => by
    have hx := hb x (List.mem_cons_self ..)
    rw [List.pairwise_cons] at hp
    obtain ⟨k, rfl⟩ : ∃ k : Nat, x = (k : Int) := ⟨x.toNat, by omega⟩
    have := wayN_le sts r (k + 1) hp.2 fun y hy => by have := hp.1 y hy; omega
    have h2 := movesN_at sts k
    have h3 := movesN_drop sts m k (by omega)
    have e : wayN sts ((k : Int) :: r) = (movesOf sts (k : Int)).length + wayN sts r := by simp [wayN]
    omega
theorem outs_some {sts : List ASt} {fin : List Int} {N : Nat} (hN : N ≤ 5) : ∀ (row : List AMv) (rows : List (List Int)) (acc : List Mv), (∀ x ∈ row, SetN N x.to) → (∀ x ∈ rows, SetN N x) → rows.Nodup → ∃ p, outs sts fin row rows acc = some p
  | [], rows, acc, _, _, _ => ⟨_, rfl⟩
  | x :: xs, rows, acc, hx, hr, hd => by
    have hc := sets_count hr hd
    have h5 : 2 ^ N ≤ 32 := Nat.le_trans (Nat.pow_le_pow_right (by omega) hN) (by decide)
    obtain ⟨⟨i, r1⟩, e⟩ := stateRes_some (rows := rows) (l := x.to) (by omega)
    obtain ⟨_, _, _, g4⟩ := stateRes_grow e
    obtain ⟨p, hp⟩ := outs_some (sts := sts) (fin := fin) hN xs r1 (acc ++ [⟨x.yes, x.no, (i : Int), setsFrom sts x 0 fin 0⟩]) (fun y hy => hx y (List.mem_cons_of_mem _ hy)) (stateRes_set hr (hx x (List.mem_cons_self ..)) e) (g4 hd)
    refine ⟨p, ?_⟩
    unfold outs
    rw [e]
    exact hp
theorem waysRes_some {sts : List ASt} {fin l : List Int} {rows : List (List Int)} {N : Nat} (hN : N ≤ 5) (hm : movesN sts ≤ 12) (hto : ∀ s : Nat, ∀ m ∈ movesOf sts (s : Int), SetN N m.to) (hl : SetN N l) (hr : ∀ x ∈ rows, SetN N x) (hd : rows.Nodup) : ∃ p, waysRes sts fin rows l = some p := by
  have hw : wayN sts l ≤ 12 := by
    have := wayN_le sts l 0 hl.1 (fun x hx => (hl.2 x hx).1)
    rw [List.drop_zero] at this
    omega
  have hp : 2 ^ wayN sts l ≤ 4096 := Nat.le_trans (Nat.pow_le_pow_right (by omega) hw) (by decide)
  obtain ⟨r, e⟩ := waysRow_few (sts := sts) l [⟨0, 0, []⟩] (by simpa using hp)
  obtain ⟨p, h⟩ := outs_some (sts := sts) (fin := fin) hN r rows [] (waysRow_set hto l _ r (fun x hx => (hl.2 x hx).1) (fun y hy => by rw [List.mem_singleton] at hy; subst hy; exact SetN.nil N) e) hr hd
  refine ⟨p, ?_⟩
  unfold waysRes
  rw [e]
  exact h
theorem ofGo_some {sts : List ASt} {fin : List Int} {N : Nat} (hN : N ≤ 5) (hm : movesN sts ≤ 12) (hto : ∀ s : Nat, ∀ m ∈ movesOf sts (s : Int), SetN N m.to) : ∀ (f i : Nat) (rows : List (List Int)) (mv : Nat) (acc : List (List Mv)), 33 ≤ f + i → i ≤ rows.length → (∀ x ∈ rows, SetN N x) → rows.Nodup → mv ≤ i * 4096 → ∃ st, ofGo sts fin f i rows mv acc = some st
  | 0, i, rows, mv, acc, hf, hi, hr, hd, _ => by
    have hc := sets_count hr hd
    have h5 : 2 ^ N ≤ 32 := Nat.le_trans (Nat.pow_le_pow_right (by omega) hN) (by decide)
    omega
  | f + 1, i, rows, mv, acc, hf, hi, hr, hd, hmv => by
    have hc := sets_count hr hd
    have h5 : 2 ^ N ≤ 32 := Nat.le_trans (Nat.pow_le_pow_right (by omega) hN) (by decide)
    unfold ofGo
    split
    · next hlt =>
      obtain ⟨⟨o, r1⟩, e⟩ := waysRes_some (fin := fin) hN hm hto (hr _ (List.getElem_mem hlt)) hr hd
      have hl := waysRes_len e
      obtain ⟨_, k2, _, k4⟩ := waysRes_ok e
      rw [e]
      simp only [Option.bind_some]
      rw [if_pos (by omega)]
      exact ofGo_some hN hm hto f (i + 1) r1 _ _ (by omega) (by omega) (waysRes_set hto (hr _ (List.getElem_mem hlt)) hr e) (k4 hd) (by omega)
    · exact ⟨acc, rfl⟩
theorem ofInit_some {N : Nat} (hN : N ≤ 5) : ∀ (ls rows : List (List Int)) (init : List Int), (∀ x ∈ ls, SetN N x) → (∀ x ∈ rows, SetN N x) → rows.Nodup → ∃ rows' init', ofInit ls rows init = some (rows', init') ∧ (∀ x ∈ rows', SetN N x) ∧ rows'.Nodup
  | [], rows, init, _, hr, hd => ⟨rows, init, rfl, hr, hd⟩
  | l :: ls, rows, init, hl, hr, hd => by
    have hc := sets_count hr hd
    have h5 : 2 ^ N ≤ 32 := Nat.le_trans (Nat.pow_le_pow_right (by omega) hN) (by decide)
    obtain ⟨⟨i, r1⟩, e⟩ := stateRes_some (rows := rows) (l := l) (by omega)
    obtain ⟨_, _, _, g4⟩ := stateRes_grow e
    unfold ofInit
    rw [e]
    simp only [Option.bind_some]
    exact ofInit_some hN ls r1 _ (fun y hy => hl y (List.mem_cons_of_mem _ hy)) (stateRes_set hr (hl l (List.mem_cons_self ..)) e) (g4 hd)
theorem ofRes_some {a : Alt} (h : altOk a = true) (hN : a.states.length ≤ 5) (hm : movesN a.states ≤ 12) : ∃ g, ofRes a = some g := by
  have hf := finI_len a.states 0
  obtain ⟨rows, init, e, hr, hd⟩ := ofInit_some hN a.init [] [] (altOk_init h) (by simp) (by simp)
  obtain ⟨st, e2⟩ := ofGo_some (fin := finI a.states 0) hN hm (altOk_to h) 4097 0 rows 0 [] (by omega) (by omega) hr hd (by omega)
  unfold ofRes
  rw [if_pos (by omega), e]
  simp only [Option.bind_some]
  rw [e2]
  exact ⟨_, rfl⟩
/-- The reason why there is none: not to be, or too great. -/
theorem ofOut_code {a : Alt} (h : altOk a = true) : (ofOut a).1 = 0 ∨ ((ofOut a).1 = 131 ∧ ¬ (a.states.length ≤ 5 ∧ movesN a.states ≤ 12) ∧ (ofOut a).2 = nilG) := by
  unfold ofOut
  rw [if_pos h]
  cases e : ofRes a with
  | some g => exact .inl rfl
  | none =>
    refine .inr ⟨rfl, fun ⟨h1, h2⟩ => ?_, rfl⟩
    obtain ⟨g, hg⟩ := ofRes_some h h1 h2
    rw [e] at hg
    cases hg
theorem ofOut_bad {a : Alt} (h : altOk a = false) : ofOut a = (110, nilG) := by
  unfold ofOut
  rw [h]
  rfl
end Go.Proofs.YtelanndleinabaaDoor
