/- The plain Of; that its sets are rows of numbers below N. -/
import Derived.Test.YtelanndleinabaaDoorWayS
namespace Go.Proofs.YtelanndleinabaaDoor
open Go.RowKit
set_option linter.unusedVariables false

def finI : List ASt → Nat → List Int
  | [], _ => []
  | s :: r, i => if s.1 then (i : Int) :: finI r (i + 1) else finI r (i + 1)
def ofInit : List (List Int) → List (List Int) → List Int → Option (List (List Int) × List Int)
  | [], rows, init => some (rows, init)
  | l :: ls, rows, init => (stateRes rows l).bind fun r => ofInit ls r.2 (if init.any (fun y => (r.1 : Int) == y) then init else init ++ [(r.1 : Int)])
def ofGo (sts : List ASt) (fin : List Int) : Nat → Nat → List (List Int) → Nat → List (List Mv) → Option (List (List Mv))
  | 0, _, _, _, _ => none
  | f + 1, i, rows, mv, acc =>
    if h : i < rows.length then (waysRes sts fin rows rows[i]).bind fun r => if mv + r.1.length ≤ 131072 then ofGo sts fin f (i + 1) r.2 (mv + r.1.length) (acc ++ [r.1]) else none
    else some acc
def ofRes (a : Alt) : Option Gen :=
  if (finI a.states 0).length ≤ 60 then (ofInit a.init [] []).bind fun r => (ofGo a.states (finI a.states 0) 4097 0 r.1 0 []).map fun st => ⟨((finI a.states 0).length : Int), r.2, st⟩
  else none
def nilG : Gen := ⟨0, [], []⟩
def ofOut (a : Alt) : Nat × Gen := if altOk a then (match ofRes a with | some g => (0, g) | none => (131, nilG)) else (110, nilG)

theorem finI_mem : ∀ (sts : List ASt) (i : Nat), ∀ f ∈ finI sts i, (i : Int) ≤ f ∧ f < ((i + sts.length : Nat) : Int)
  | [], i, f, h => by cases h
  | s :: r, i, f, h => by
    have ih := finI_mem r (i + 1)
    unfold finI at h
    rw [List.length_cons]
    split at h
    · rcases List.mem_cons.1 h with rfl | h
      · omega
      · have := ih f h; omega
    · have := ih f h; omega
theorem finI_len : ∀ (sts : List ASt) (i : Nat), (finI sts i).length ≤ sts.length
  | [], i => by simp [finI]
  | s :: r, i => by
    have ih := finI_len r (i + 1)
    unfold finI
    rw [List.length_cons]
    split
    · rw [List.length_cons]; omega
    · omega

theorem stsOk_at : ∀ {ss : List ASt} {i : Nat}, stsOk i ss = true → ∀ (k : Nat) (s : ASt), ss[k]? = some s → s.2.all (stOk (i + k)) = true
  | [], i, h, k, s, hk => by simp at hk
  | t :: r, i, h, k, s, hk => by
    unfold stsOk at h
    rw [Bool.and_eq_true] at h
    cases k with
    | zero => simp at hk; subst hk; exact h.1
    | succ k =>
      have := stsOk_at h.2 k s (by simpa using hk)
      rw [show i + (k + 1) = i + 1 + k by omega]
      exact this
theorem altOk_to {a : Alt} (h : altOk a = true) (s : Nat) : ∀ m ∈ movesOf a.states (s : Int), SetN a.states.length m.to := by
  intro m hm
  unfold movesOf at hm
  rw [Int.toNat_natCast, List.getD_eq_getElem?_getD] at hm
  cases hs : a.states[s]? with
  | none => rw [hs] at hm; cases hm
  | some x =>
    rw [hs, Option.getD_some] at hm
    unfold altOk at h
    simp only [Bool.and_eq_true] at h
    have hk := stsOk_at h.1.2 s x hs
    have := List.all_eq_true.1 hk m hm
    unfold stOk at this
    rw [Bool.and_eq_true] at this
    have hlt := (List.getElem?_eq_some_iff.1 hs).1
    refine setL_setN this.2 ?_
    omega
theorem altOk_init {a : Alt} (h : altOk a = true) : ∀ l ∈ a.init, SetN a.states.length l := by
  intro l hl
  unfold altOk at h
  simp only [Bool.and_eq_true] at h
  exact setL_setN (List.all_eq_true.1 h.1.1.2 l hl) (by omega)

/-! Sets stay sets. -/
section
variable {N : Nat} {sts : List ASt}
theorem addA_set {nx : List AMv} {z : AMv} (h : ∀ x ∈ nx, SetN N x.to) (hz : SetN N z.to) : ∀ x ∈ addA nx z, SetN N x.to := by
  unfold addA
  split
  · intro x hx
    rcases List.mem_append.1 hx with hx | hx
    · exact h x hx
    · rw [List.mem_singleton] at hx; subst hx; exact hz
  · exact h
theorem stepY_set {x : AMv} (hx : SetN N x.to) : ∀ (ys nx : List AMv) (r : List AMv), (∀ y ∈ ys, SetN N y.to) → (∀ y ∈ nx, SetN N y.to) → stepY x ys nx = some r → ∀ y ∈ r, SetN N y.to
  | [], nx, r, _, hn, h => by
    unfold stepY at h
    injection h with h
    subst h
    exact hn
  | y :: ys, nx, r, hy, hn, h => by
    unfold stepY at h
    split at h
    · exact stepY_set hx ys _ r (fun z hz => hy z (List.mem_cons_of_mem _ hz)) (addA_set hn (hx.join (hy y (List.mem_cons_self ..)))) h
    · cases h
theorem stepX_set {ys : List AMv} (hy : ∀ y ∈ ys, SetN N y.to) : ∀ (xs nx : List AMv) (r : List AMv), (∀ y ∈ xs, SetN N y.to) → (∀ y ∈ nx, SetN N y.to) → stepX ys xs nx = some r → ∀ y ∈ r, SetN N y.to
  | [], nx, r, _, hn, h => by
    unfold stepX at h
    injection h with h
    subst h
    exact hn
  | x :: xs, nx, r, hx, hn, h => by
    unfold stepX at h
    cases hs : stepY x ys nx with
    | none => rw [hs] at h; cases h
    | some r1 =>
      rw [hs] at h
      exact stepX_set hy xs r1 r (fun z hz => hx z (List.mem_cons_of_mem _ hz)) (stepY_set (hx x (List.mem_cons_self ..)) ys nx r1 hy hn hs) h
theorem waysRow_set (hto : ∀ s : Nat, ∀ m ∈ movesOf sts (s : Int), SetN N m.to) : ∀ (l : List Int) (row r : List AMv), (∀ x ∈ l, 0 ≤ x) → (∀ y ∈ row, SetN N y.to) → waysRow sts l row = some r → ∀ y ∈ r, SetN N y.to
  | [], row, r, _, hn, h => by
    unfold waysRow at h
    injection h with h
    subst h
    exact hn
  | s :: l, row, r, hl, hn, h => by
    unfold waysRow at h
    cases hs : stepX (movesOf sts s) row [] with
    | none => rw [hs] at h; cases h
    | some r1 =>
      rw [hs] at h
      have h0 := hl s (List.mem_cons_self ..)
      have hs' : ((s.toNat : Nat) : Int) = s := by omega
      have hm := hto s.toNat
      rw [hs'] at hm
      exact waysRow_set hto l r1 r (fun x hx => hl x (List.mem_cons_of_mem _ hx)) (stepX_set hm row [] r1 hn (fun y hy => by cases hy) hs) h
theorem stateRes_set {rows rows' : List (List Int)} {l : List Int} {i : Nat} (hr : ∀ x ∈ rows, SetN N x) (hl : SetN N l) (h : stateRes rows l = some (i, rows')) : ∀ x ∈ rows', SetN N x := by
  unfold stateRes at h
  split at h
  · injection h with h; injection h with h1 h2; subst h2; exact hr
  · split at h
    · injection h with h; injection h with h1 h2; subst h2
      intro x hx
      rcases List.mem_append.1 hx with hx | hx
      · exact hr x hx
      · rw [List.mem_singleton] at hx; subst hx; exact hl
    · cases h
theorem outs_set {fin : List Int} : ∀ (row : List AMv) (rows rows' : List (List Int)) (acc out : List Mv), (∀ x ∈ row, SetN N x.to) → (∀ x ∈ rows, SetN N x) → outs sts fin row rows acc = some (out, rows') → ∀ x ∈ rows', SetN N x
  | [], rows, rows', acc, out, _, hr, h => by
    unfold outs at h
    injection h with h
    injection h with h1 h2
    subst h2
    exact hr
  | x :: xs, rows, rows', acc, out, hx, hr, h => by
    unfold outs at h
    cases hs : stateRes rows x.to with
    | none => rw [hs] at h; cases h
    | some p =>
      obtain ⟨i, r1⟩ := p
      rw [hs] at h
      exact outs_set xs r1 rows' _ out (fun y hy => hx y (List.mem_cons_of_mem _ hy)) (stateRes_set hr (hx x (List.mem_cons_self ..)) hs) h
theorem waysRes_set {fin l : List Int} {rows rows' : List (List Int)} {out : List Mv} (hto : ∀ s : Nat, ∀ m ∈ movesOf sts (s : Int), SetN N m.to) (hl : SetN N l) (hr : ∀ x ∈ rows, SetN N x) (h : waysRes sts fin rows l = some (out, rows')) : ∀ x ∈ rows', SetN N x := by
  unfold waysRes at h
  cases hs : waysRow sts l [⟨0, 0, []⟩] with
  | none => rw [hs] at h; cases h
  | some r =>
    rw [hs] at h
    exact outs_set r rows rows' [] out (waysRow_set hto l _ r (fun x hx => (hl.2 x hx).1) (fun y hy => by rw [List.mem_singleton] at hy; subst hy; exact SetN.nil N) hs) hr h
end
theorem stepY_len {x : AMv} : ∀ (ys nx r : List AMv), nx.length ≤ 4096 → stepY x ys nx = some r → r.length ≤ 4096
  | [], nx, r, hn, h => by
    unfold stepY at h
    injection h with h
    subst h
    exact hn
  | y :: ys, nx, r, hn, h => by
    unfold stepY at h
    split at h
    · next hl => exact stepY_len ys _ r hl h
    · cases h
theorem stepX_len {ys : List AMv} : ∀ (xs nx r : List AMv), nx.length ≤ 4096 → stepX ys xs nx = some r → r.length ≤ 4096
  | [], nx, r, hn, h => by
    unfold stepX at h
    injection h with h
    subst h
    exact hn
  | x :: xs, nx, r, hn, h => by
    unfold stepX at h
    cases hs : stepY x ys nx with
    | none => rw [hs] at h; cases h
    | some r1 =>
      rw [hs] at h
      exact stepX_len xs r1 r (stepY_len ys nx r1 hn hs) h
theorem waysRow_len {sts : List ASt} : ∀ (l : List Int) (row r : List AMv), row.length ≤ 4096 → waysRow sts l row = some r → r.length ≤ 4096
  | [], row, r, hn, h => by
    unfold waysRow at h
    injection h with h
    subst h
    exact hn
  | s :: l, row, r, hn, h => by
    unfold waysRow at h
    cases hs : stepX (movesOf sts s) row [] with
    | none => rw [hs] at h; cases h
    | some r1 =>
      rw [hs] at h
      exact waysRow_len l r1 r (stepX_len row [] r1 (by simp) hs) h
theorem outs_len {sts : List ASt} {fin : List Int} : ∀ (row : List AMv) (rows rows' : List (List Int)) (acc out : List Mv), outs sts fin row rows acc = some (out, rows') → out.length = acc.length + row.length
  | [], rows, rows', acc, out, h => by
    unfold outs at h
    injection h with h
    injection h with h1 h2
    subst h1
    simp
  | x :: xs, rows, rows', acc, out, h => by
    unfold outs at h
    cases hs : stateRes rows x.to with
    | none => rw [hs] at h; cases h
    | some p =>
      obtain ⟨i, r1⟩ := p
      rw [hs] at h
      have := outs_len xs r1 rows' _ out h
      rw [this]
      simp
      omega
theorem waysRes_len {sts : List ASt} {fin l : List Int} {rows rows' : List (List Int)} {out : List Mv} (h : waysRes sts fin rows l = some (out, rows')) : out.length ≤ 4096 := by
  unfold waysRes at h
  cases hs : waysRow sts l [⟨0, 0, []⟩] with
  | none => rw [hs] at h; cases h
  | some r =>
    rw [hs] at h
    have := outs_len r rows rows' [] out h
    have := waysRow_len l _ r (by simp) hs
    simp at *
    omega
theorem ofGo_step {sts : List ASt} {fin : List Int} {i mv : Nat} {rows : List (List Int)} {acc : List (List Mv)} (hi : i ≤ 4096) (h : i < rows.length) :
    ofGo sts fin (4097 - i) i rows mv acc = (waysRes sts fin rows rows[i]).bind fun r => if mv + r.1.length ≤ 131072 then ofGo sts fin (4097 - (i + 1)) (i + 1) r.2 (mv + r.1.length) (acc ++ [r.1]) else none := by
  rw [show 4097 - i = (4097 - (i + 1)) + 1 by omega]
  conv => lhs; unfold ofGo
  rw [dif_pos h]
theorem ofGo_end {sts : List ASt} {fin : List Int} {i mv : Nat} {rows : List (List Int)} {acc : List (List Mv)} (hi : i ≤ 4096) (h : ¬ i < rows.length) : ofGo sts fin (4097 - i) i rows mv acc = some acc := by
  rw [show 4097 - i = (4097 - (i + 1)) + 1 by omega]
  unfold ofGo
  rw [dif_neg h]
end Go.Proofs.YtelanndleinabaaDoor
