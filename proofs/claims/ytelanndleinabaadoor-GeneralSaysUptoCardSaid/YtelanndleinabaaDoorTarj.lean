/- Tarjan's search on a plain graph: what is kept from step to step. No program in sight. -/
namespace Go.Proofs.YtelanndleinabaaDoor
set_option linter.unusedVariables false

/-- From each node its steps, each with its sets. -/
abbrev Adj := Nat → List (Nat × Nat)
abbrev TFrame := Nat × List (Nat × Nat)

inductive Rch (adj : Adj) (x : Nat) : Nat → Prop
  | refl : Rch adj x x
  | tail {y : Nat} {e : Nat × Nat} : Rch adj x y → e ∈ adj y → Rch adj x e.1

section
variable {adj : Adj}
theorem Rch.trans {x y z : Nat} (h : Rch adj x y) (k : Rch adj y z) : Rch adj x z := by
  induction k with
  | refl => exact h
  | tail _ he ih => exact ih.tail he
theorem Rch.one {x : Nat} {e : Nat × Nat} (h : e ∈ adj x) : Rch adj x e.1 := Rch.refl.tail h
/-- What holds at x, and goes over each step, holds wherever one comes. -/
theorem Rch.carry {x y : Nat} {P : Nat → Prop} (h : Rch adj x y) (h0 : P x) (hs : ∀ u, P u → ∀ e ∈ adj u, P e.1) : P y := by
  induction h with
  | refl => exact h0
  | tail _ he ih => exact hs _ ih _ he
end

structure TSt where
  index : Nat → Option Nat
  low : Nat → Nat
  stack : List Nat
  cnt : Nat
def TSt.ix (s : TSt) (x : Nat) : Nat := (s.index x).getD 0
def upd {A : Type} (f : Nat → A) (x : Nat) (v : A) : Nat → A := fun y => if y = x then v else f y
theorem upd_same {A : Type} (f : Nat → A) (x : Nat) (v : A) : upd f x v x = v := by simp [upd]
theorem upd_other {A : Type} (f : Nat → A) {x y : Nat} (v : A) (h : y ≠ x) : upd f x v y = f y := by simp [upd, h]

def TSt.enter (s : TSt) (x : Nat) : TSt := ⟨upd s.index x (some s.cnt), upd s.low x s.cnt, x :: s.stack, s.cnt + 1⟩
def TSt.lower (s : TSt) (x v : Nat) : TSt := { s with low := upd s.low x (min (s.low x) v) }
/-- What lies on the stack down to x, with x. -/
def part_ (x : Nat) : List Nat → List Nat
  | [] => []
  | y :: r => if y = x then [y] else y :: part_ x r
def under (x : Nat) : List Nat → List Nat
  | [] => []
  | y :: r => if y = x then r else under x r
def TSt.pop (s : TSt) (x : Nat) : TSt := { s with stack := under x s.stack }

theorem part_under (x : Nat) : ∀ l : List Nat, part_ x l ++ under x l = l
  | [] => rfl
  | y :: r => by
    unfold part_ under
    split
    · rfl
    · rw [List.cons_append, part_under x r]

structure TInv (adj : Adj) (good : Nat → Prop) (s : TSt) (fs : List TFrame) : Prop where
  lt : ∀ x a, s.index x = some a → a < s.cnt
  inj : ∀ x y a, s.index x = some a → s.index y = some a → x = y
  vis : ∀ x ∈ s.stack, s.index x ≠ none
  sorted : s.stack.Pairwise fun x y => s.ix y < s.ix x
  fsorted : (fs.map Prod.fst).Pairwise fun x y => s.ix y < s.ix x
  fon : ∀ f ∈ fs, f.1 ∈ s.stack
  rem : ∀ f ∈ fs, ∃ done, adj f.1 = done ++ f.2 ∧ ∀ e ∈ done, s.index e.1 ≠ none ∧ (e.1 ∈ s.stack → s.low f.1 ≤ s.ix e.1)
  closed : ∀ x, s.index x ≠ none → x ∉ s.stack → ∀ e ∈ adj x, s.index e.1 ≠ none ∧ e.1 ∉ s.stack
  black : ∀ x ∈ s.stack, x ∉ fs.map Prod.fst → ∀ e ∈ adj x, s.index e.1 ≠ none
  owner : ∀ x ∈ s.stack, x ∉ fs.map Prod.fst → ∀ f ∈ fs, s.ix f.1 ≤ s.ix x → (∀ g ∈ fs, s.ix g.1 ≤ s.ix x → s.ix g.1 ≤ s.ix f.1) → ∀ e ∈ adj x, e.1 ∈ s.stack → s.low f.1 ≤ s.ix e.1
  up : ∀ x ∈ s.stack, ∀ y ∈ s.stack, s.ix x ≤ s.ix y → Rch adj x y
  gray : ∀ y ∈ s.stack, ∃ f ∈ fs, s.ix f.1 ≤ s.ix y ∧ Rch adj y f.1
  lowle : ∀ f ∈ fs, s.low f.1 ≤ s.ix f.1
  lowat : ∀ f ∈ fs, ∃ z ∈ s.stack, s.ix z = s.low f.1 ∧ Rch adj f.1 z
  bad : ∀ x, s.index x ≠ none → x ∉ s.stack → ¬ good x

section
variable {adj : Adj} {good : Nat → Prop} {s : TSt} {fs : List TFrame}

theorem ix_of {x a : Nat} (h : s.index x = some a) : s.ix x = a := by simp [TSt.ix, h]
theorem TInv.ix_lt (h : TInv adj good s fs) {x : Nat} (hx : s.index x ≠ none) : s.ix x < s.cnt := by
  cases hi : s.index x with
  | none => exact absurd hi hx
  | some a => rw [ix_of hi]; exact h.lt x a hi
theorem TInv.ix_inj (h : TInv adj good s fs) {x y : Nat} (hx : s.index x ≠ none) (hy : s.index y ≠ none) (he : s.ix x = s.ix y) : x = y := by
  cases hi : s.index x with
  | none => exact absurd hi hx
  | some a =>
    cases hj : s.index y with
    | none => exact absurd hj hy
    | some b =>
      rw [ix_of hi, ix_of hj] at he
      subst he
      exact h.inj x y a hi hj
theorem TInv.empty (h : TInv adj good s []) : s.stack = [] := by
  cases hs : s.stack with
  | nil => rfl
  | cons y r =>
    obtain ⟨f, hf, _⟩ := h.gray y (by rw [hs]; exact List.mem_cons_self ..)
    cases hf

/-- At the very beginning. -/
theorem TInv.start : TInv adj good ⟨fun _ => none, fun _ => 0, [], 0⟩ [] where
  lt := by intro x a h; cases h
  inj := by intro x y a h; cases h
  vis := by intro x h; cases h
  sorted := List.Pairwise.nil
  fsorted := List.Pairwise.nil
  fon := by intro f h; cases h
  rem := by intro f h; cases h
  closed := by intro x h; exact absurd rfl h
  black := by intro x h; cases h
  owner := by intro x h; cases h
  up := by intro x h; cases h
  gray := by intro x h; cases h
  lowle := by intro x h; cases h
  lowat := by intro x h; cases h
  bad := by intro x h; exact absurd rfl h

theorem enter_ix {x y : Nat} (h : y ≠ x) : (s.enter x).ix y = s.ix y := by simp [TSt.ix, TSt.enter, upd_other _ _ h]
theorem enter_ix_same {x : Nat} : (s.enter x).ix x = s.cnt := by simp [TSt.ix, TSt.enter, upd_same]
theorem enter_index {x y : Nat} (h : y ≠ x) : (s.enter x).index y = s.index y := by simp [TSt.enter, upd_other _ _ h]
theorem enter_low {x y : Nat} (h : y ≠ x) : (s.enter x).low y = s.low y := by simp [TSt.enter, upd_other _ _ h]

/-- A new node is entered: fs are the frames below it; whoever is there already comes to it. -/
theorem TInv.enter (h : TInv adj good s fs) {x : Nat} (hx : s.index x = none) (hup : ∀ y ∈ s.stack, Rch adj y x) : TInv adj good (s.enter x) ((x, adj x) :: fs) := by
  have hxs : x ∉ s.stack := fun hm => h.vis x hm hx
  have hne : ∀ y ∈ s.stack, y ≠ x := fun y hy e => hxs (e ▸ hy)
  have hvn : ∀ y, s.index y ≠ none → y ≠ x := fun y hy e => hy (e ▸ hx)
  have hfx : ∀ f ∈ fs, f.1 ≠ x := fun f hf => hne _ (h.fon f hf)
  have hidx : ∀ y, (s.enter x).index y ≠ none → y = x ∨ (y ≠ x ∧ s.index y ≠ none) := by
    intro y hy
    by_cases e : y = x
    · exact .inl e
    · exact .inr ⟨e, by rwa [enter_index e] at hy⟩
  have hidx' : ∀ y, s.index y ≠ none → (s.enter x).index y ≠ none := fun y hy => by rwa [enter_index (hvn y hy)]
  have hcx : ∀ y, s.index y ≠ none → s.ix y < s.cnt := fun y hy => h.ix_lt hy
  constructor
  · intro y a hy
    by_cases e : y = x
    · subst e
      have : (s.enter y).index y = some s.cnt := by simp [TSt.enter, upd_same]
      rw [this] at hy
      injection hy with hy
      show a < s.cnt + 1
      omega
    · rw [enter_index e] at hy
      have := h.lt y a hy
      show a < s.cnt + 1
      omega
  · intro y z a hy hz
    by_cases e : y = x
    · by_cases e' : z = x
      · rw [e, e']
      · subst e
        have : (s.enter y).index y = some s.cnt := by simp [TSt.enter, upd_same]
        rw [this] at hy
        rw [enter_index e'] at hz
        have := h.lt z a hz
        injection hy with hy
        omega
    · by_cases e' : z = x
      · subst e'
        have : (s.enter z).index z = some s.cnt := by simp [TSt.enter, upd_same]
        rw [this] at hz
        rw [enter_index e] at hy
        have := h.lt y a hy
        injection hz with hz
        omega
      · rw [enter_index e] at hy
        rw [enter_index e'] at hz
        exact h.inj y z a hy hz
  · intro y hy
    rcases List.mem_cons.1 hy with rfl | hy
    · simp [TSt.enter, upd_same]
    · exact hidx' y (h.vis y hy)
  · show (x :: s.stack).Pairwise _
    refine List.Pairwise.cons ?_ ?_
    · intro y hy
      rw [enter_ix (hne y hy), enter_ix_same]
      exact hcx y (h.vis y hy)
    · refine h.sorted.imp_of_mem ?_
      intro y z hy hz hyz
      rwa [enter_ix (hne y hy), enter_ix (hne z hz)]
  · show (x :: fs.map Prod.fst).Pairwise _
    refine List.Pairwise.cons ?_ ?_
    · intro y hy
      obtain ⟨f, hf, rfl⟩ := List.mem_map.1 hy
      rw [enter_ix (hfx f hf), enter_ix_same]
      exact hcx _ (h.vis _ (h.fon f hf))
    · refine h.fsorted.imp_of_mem ?_
      intro y z hy hz hyz
      obtain ⟨f, hf, rfl⟩ := List.mem_map.1 hy
      obtain ⟨g, hg, rfl⟩ := List.mem_map.1 hz
      rwa [enter_ix (hfx f hf), enter_ix (hfx g hg)]
  · intro f hf
    rcases List.mem_cons.1 hf with rfl | hf
    · exact List.mem_cons_self ..
    · exact List.mem_cons_of_mem _ (h.fon f hf)
  · intro f hf
    rcases List.mem_cons.1 hf with rfl | hf
    · exact ⟨[], rfl, fun e he => by cases he⟩
    · obtain ⟨done, hd, hall⟩ := h.rem f hf
      refine ⟨done, hd, fun e he => ⟨hidx' _ (hall e he).1, fun hm => ?_⟩⟩
      rw [enter_low (hfx f hf)]
      rcases List.mem_cons.1 hm with e1 | hm
      · exact absurd e1 (hvn _ (hall e he).1)
      · rw [enter_ix (hne _ hm)]
        exact (hall e he).2 hm
  · intro y hy hys e he
    have hyx : y ≠ x := fun e' => hys (e' ▸ List.mem_cons_self ..)
    rw [enter_index hyx] at hy
    have hys' : y ∉ s.stack := fun hm => hys (List.mem_cons_of_mem _ hm)
    obtain ⟨h1, h2⟩ := h.closed y hy hys' e he
    refine ⟨hidx' _ h1, fun hm => ?_⟩
    rcases List.mem_cons.1 hm with e1 | hm
    · exact hvn _ h1 e1
    · exact h2 hm
  · intro y hy hyf e he
    rcases List.mem_cons.1 hy with rfl | hy
    · exact absurd (List.mem_cons_self ..) hyf
    · exact hidx' _ (h.black y hy (fun hm => hyf (List.mem_cons_of_mem _ hm)) e he)
  · intro y hy hyf f hf hfy hmax e he hes
    rcases List.mem_cons.1 hy with rfl | hy
    · exact absurd (List.mem_cons_self ..) hyf
    · have hyf' : y ∉ fs.map Prod.fst := fun hm => hyf (List.mem_cons_of_mem _ hm)
      have hyx := hne y hy
      have hev := h.black y hy hyf' e he
      have hex := hvn _ hev
      have hes' : e.1 ∈ s.stack := by
        rcases List.mem_cons.1 hes with e1 | hm
        · exact absurd e1 hex
        · exact hm
      rw [enter_ix hyx] at hfy hmax
      rcases List.mem_cons.1 hf with rfl | hf
      · have h1 := hcx y (h.vis y hy)
        rw [enter_ix_same] at hfy
        omega
      · rw [enter_low (hfx f hf), enter_ix hex]
        rw [enter_ix (hfx f hf)] at hfy hmax
        refine h.owner y hy hyf' f hf hfy (fun g hg hgy => ?_) e he hes'
        have := hmax g (List.mem_cons_of_mem _ hg)
        rw [enter_ix (hfx g hg)] at this
        exact this hgy
  · intro y hy z hz hyz
    rcases List.mem_cons.1 hy with rfl | hy2
    · rcases List.mem_cons.1 hz with rfl | hz
      · exact Rch.refl
      · rw [enter_ix_same, enter_ix (hne z hz)] at hyz
        have := hcx z (h.vis z hz)
        omega
    · skip
      rcases List.mem_cons.1 hz with e2 | hz
      · rw [e2]; exact hup y hy2
      · rw [enter_ix (hne y hy2), enter_ix (hne z hz)] at hyz
        exact h.up y hy2 z hz hyz
  · intro y hy
    rcases List.mem_cons.1 hy with rfl | hy
    · exact ⟨_, List.mem_cons_self .., Nat.le_refl _, Rch.refl⟩
    · obtain ⟨f, hf, h1, h2⟩ := h.gray y hy
      exact ⟨f, List.mem_cons_of_mem _ hf, by rw [enter_ix (hfx f hf), enter_ix (hne y hy)]; exact h1, h2⟩
  · intro f hf
    rcases List.mem_cons.1 hf with rfl | hf
    · rw [enter_ix_same]
      simp [TSt.enter, upd_same]
    · rw [enter_low (hfx f hf), enter_ix (hfx f hf)]
      exact h.lowle f hf
  · intro f hf
    rcases List.mem_cons.1 hf with rfl | hf
    · exact ⟨_, List.mem_cons_self .., by rw [enter_ix_same]; simp [TSt.enter, upd_same], Rch.refl⟩
    · obtain ⟨z, hz, h1, h2⟩ := h.lowat f hf
      exact ⟨z, List.mem_cons_of_mem _ hz, by rw [enter_ix (hne z hz), enter_low (hfx f hf)]; exact h1, h2⟩
  · intro y hy hys
    have hyx : y ≠ x := fun e' => hys (e' ▸ List.mem_cons_self ..)
    rw [enter_index hyx] at hy
    exact h.bad y hy fun hm => hys (List.mem_cons_of_mem _ hm)

/-- A step of the frame ahead is done. -/
theorem TInv.done {x : Nat} {e : Nat × Nat} {r : List (Nat × Nat)} (h : TInv adj good s ((x, e :: r) :: fs)) (hv : s.index e.1 ≠ none) (hl : e.1 ∈ s.stack → s.low x ≤ s.ix e.1) : TInv adj good s ((x, r) :: fs) where
  lt := h.lt
  inj := h.inj
  vis := h.vis
  sorted := h.sorted
  fsorted := h.fsorted
  fon := by
    intro f hf
    rcases List.mem_cons.1 hf with rfl | hf
    · exact h.fon (x, e :: r) (List.mem_cons_self ..)
    · exact h.fon f (List.mem_cons_of_mem _ hf)
  rem := by
    intro f hf
    rcases List.mem_cons.1 hf with rfl | hf
    · obtain ⟨d, h1, h2⟩ := h.rem (x, e :: r) (List.mem_cons_self ..)
      refine ⟨d ++ [e], by simpa using h1, fun k hk => ?_⟩
      rcases List.mem_append.1 hk with hk | hk
      · exact h2 k hk
      · rw [List.mem_singleton.1 hk]; exact ⟨hv, hl⟩
    · exact h.rem f (List.mem_cons_of_mem _ hf)
  closed := h.closed
  black := h.black
  owner := by
    intro y hy hyf f hf hfy hmax
    have hmax' : ∀ g ∈ (x, e :: r) :: fs, s.ix g.1 ≤ s.ix y → s.ix g.1 ≤ s.ix f.1 := by
      intro g hg
      rcases List.mem_cons.1 hg with rfl | hg
      · exact hmax (x, r) (List.mem_cons_self ..)
      · exact hmax g (List.mem_cons_of_mem _ hg)
    rcases List.mem_cons.1 hf with rfl | hf
    · exact h.owner y hy hyf (x, e :: r) (List.mem_cons_self ..) hfy hmax'
    · exact h.owner y hy hyf f (List.mem_cons_of_mem _ hf) hfy hmax'
  up := h.up
  gray := by
    intro y hy
    obtain ⟨f, hf, h1, h2⟩ := h.gray y hy
    rcases List.mem_cons.1 hf with rfl | hf
    · exact ⟨(x, r), List.mem_cons_self .., h1, h2⟩
    · exact ⟨f, List.mem_cons_of_mem _ hf, h1, h2⟩
  lowle := by
    intro f hf
    rcases List.mem_cons.1 hf with rfl | hf
    · exact h.lowle (x, e :: r) (List.mem_cons_self ..)
    · exact h.lowle f (List.mem_cons_of_mem _ hf)
  lowat := by
    intro f hf
    rcases List.mem_cons.1 hf with rfl | hf
    · exact h.lowat (x, e :: r) (List.mem_cons_self ..)
    · exact h.lowat f (List.mem_cons_of_mem _ hf)
  bad := h.bad

theorem lower_low_same {x v : Nat} : (s.lower x v).low x = min (s.low x) v := by simp [TSt.lower, upd_same]
theorem lower_low {x v y : Nat} (h : y ≠ x) : (s.lower x v).low y = s.low y := by simp [TSt.lower, upd_other _ _ h]
theorem lower_le {x v y : Nat} : (s.lower x v).low y ≤ s.low y := by
  by_cases h : y = x
  · subst h; rw [lower_low_same]; exact Nat.min_le_left _ _
  · rw [lower_low h]; exact Nat.le_refl _
theorem lower_ix {x v y : Nat} : (s.lower x v).ix y = s.ix y := rfl

/-- A frame's low number is lowered to that of a node that it comes to. -/
theorem TInv.lower (h : TInv adj good s fs) {x z : Nat} (hz : z ∈ s.stack) (hr : Rch adj x z) : TInv adj good (s.lower x (s.ix z)) fs where
  lt := h.lt
  inj := h.inj
  vis := h.vis
  sorted := h.sorted
  fsorted := h.fsorted
  fon := h.fon
  rem := by
    intro f hf
    obtain ⟨d, h1, h2⟩ := h.rem f hf
    exact ⟨d, h1, fun e he => ⟨(h2 e he).1, fun hm => Nat.le_trans lower_le ((h2 e he).2 hm)⟩⟩
  closed := h.closed
  black := h.black
  owner := by
    intro y hy hyf f hf hfy hmax e he hes
    exact Nat.le_trans lower_le (h.owner y hy hyf f hf hfy hmax e he hes)
  up := h.up
  gray := h.gray
  lowle := by
    intro f hf
    exact Nat.le_trans lower_le (h.lowle f hf)
  lowat := by
    intro f hf
    by_cases hx : f.1 = x
    · rw [hx, lower_low_same]
      by_cases hm : s.low x ≤ s.ix z
      · rw [Nat.min_eq_left hm]
        obtain ⟨z', h1, h2, h3⟩ := h.lowat f hf
        rw [hx] at h2 h3
        exact ⟨z', h1, h2, h3⟩
      · rw [Nat.min_eq_right (by omega)]
        exact ⟨z, hz, rfl, hr⟩
    · rw [lower_low hx]
      exact h.lowat f hf
  bad := h.bad

theorem TInv.head_ge (h : TInv adj good s fs) {x : Nat} {r : List (Nat × Nat)} {gs : List TFrame} (e : fs = (x, r) :: gs) {g : TFrame} (hg : g ∈ fs) : s.ix g.1 ≤ s.ix x := by
  subst e
  rcases List.mem_cons.1 hg with rfl | hg
  · exact Nat.le_refl _
  · have := List.rel_of_pairwise_cons h.fsorted (List.mem_map_of_mem (f := Prod.fst) hg)
    exact Nat.le_of_lt this

/-- The frame ahead is done, and comes to a frame below: it stays on the stack. -/
theorem TInv.leave {x u : Nat} {r : List (Nat × Nat)} (h : TInv adj good s ((x, []) :: (u, r) :: fs)) (hlow : s.low x < s.ix x) (hu : s.low u ≤ s.low x) : TInv adj good s ((u, r) :: fs) := by
  have hx0 : (x, ([] : List (Nat × Nat))) ∈ (x, []) :: (u, r) :: fs := List.mem_cons_self ..
  have hxs := h.fon _ hx0
  have hxv := h.vis _ hxs
  obtain ⟨dx, hdx, hall⟩ := h.rem _ hx0
  rw [List.append_nil] at hdx
  have hlt : ∀ g ∈ (u, r) :: fs, s.ix g.1 < s.ix x := fun g hg => List.rel_of_pairwise_cons h.fsorted (List.mem_map_of_mem (f := Prod.fst) hg)
  constructor
  · exact h.lt
  · exact h.inj
  · exact h.vis
  · exact h.sorted
  · exact (List.pairwise_cons.1 h.fsorted).2
  · exact fun f hf => h.fon f (List.mem_cons_of_mem _ hf)
  · exact fun f hf => h.rem f (List.mem_cons_of_mem _ hf)
  · exact h.closed
  · intro y hy hyf e he
    by_cases hyx : y = x
    · subst hyx
      exact (hall e (by rw [← hdx]; exact he)).1
    · exact h.black y hy (fun hm => by
        rcases List.mem_cons.1 hm with e1 | hm
        · exact hyx e1
        · exact hyf hm) e he
  · intro y hy hyf f hf hfy hmax e he hes
    by_cases hxy : s.ix x ≤ s.ix y
    · -- whose was x's is u's now
      have hfu : f.1 = u := by
        have h1 := hmax (u, r) (List.mem_cons_self ..) (Nat.le_trans (Nat.le_of_lt (hlt _ (List.mem_cons_self ..))) hxy)
        have h2 : s.ix f.1 ≤ s.ix u := by
          rcases List.mem_cons.1 hf with rfl | hf'
          · exact Nat.le_refl _
          · exact Nat.le_of_lt (List.rel_of_pairwise_cons (List.pairwise_cons.1 h.fsorted).2 (List.mem_map_of_mem (f := Prod.fst) hf'))
        exact h.ix_inj (h.vis _ (h.fon f (List.mem_cons_of_mem _ hf))) (h.vis _ (h.fon (u, r) (List.mem_cons_of_mem _ (List.mem_cons_self ..)))) (Nat.le_antisymm h2 h1)
      rw [hfu]
      refine Nat.le_trans hu ?_
      by_cases hyx : y = x
      · subst hyx
        exact (hall e (by rw [← hdx]; exact he)).2 hes
      · refine h.owner y hy (fun hm => ?_) (x, []) hx0 hxy (fun g hg _ => h.head_ge rfl hg) e he hes
        rcases List.mem_cons.1 hm with e1 | hm
        · exact hyx e1
        · exact hyf hm
    · have hyx : y ≠ x := fun e1 => hxy (e1 ▸ Nat.le_refl _)
      refine h.owner y hy (fun hm => ?_) f (List.mem_cons_of_mem _ hf) hfy (fun g hg hgy => ?_) e he hes
      · rcases List.mem_cons.1 hm with e1 | hm
        · exact hyx e1
        · exact hyf hm
      · rcases List.mem_cons.1 hg with rfl | hg
        · exact absurd hgy hxy
        · exact hmax g hg hgy
  · exact h.up
  · intro y hy
    obtain ⟨f, hf, h1, h2⟩ := h.gray y hy
    rcases List.mem_cons.1 hf with rfl | hf
    · obtain ⟨z, hz, hz1, hz2⟩ := h.lowat _ hx0
      obtain ⟨g, hg, hg1, hg2⟩ := h.gray z hz
      simp only at hz1 hz2 h1 h2
      rcases List.mem_cons.1 hg with rfl | hg
      · simp only at hg1; omega
      · exact ⟨g, hg, by omega, (h2.trans hz2).trans hg2⟩
    · exact ⟨f, hf, h1, h2⟩
  · exact fun f hf => h.lowle f (List.mem_cons_of_mem _ hf)
  · exact fun f hf => h.lowat f (List.mem_cons_of_mem _ hf)
  · exact h.bad

/-- What is left of the stack, and what is taken away. -/
theorem sorted_parts {ix : Nat → Nat} {x : Nat} : ∀ {l : List Nat}, l.Pairwise (fun a b => ix b < ix a) → x ∈ l → (∀ y, y ∈ part_ x l ↔ y ∈ l ∧ ix x ≤ ix y) ∧ (∀ y, y ∈ under x l ↔ y ∈ l ∧ ix y < ix x)
  | [], _, hx => by cases hx
  | a :: l, h, hx => by
    obtain ⟨h1, h2⟩ := List.pairwise_cons.1 h
    unfold part_ under
    by_cases hax : a = x
    · subst hax
      rw [if_pos rfl, if_pos rfl]
      constructor
      · intro y
        constructor
        · intro hy; rw [List.mem_singleton.1 hy]; exact ⟨List.mem_cons_self .., Nat.le_refl _⟩
        · rintro ⟨hy, hle⟩
          rcases List.mem_cons.1 hy with rfl | hy
          · exact List.mem_cons_self ..
          · have := h1 y hy; omega
      · intro y
        constructor
        · intro hy; exact ⟨List.mem_cons_of_mem _ hy, h1 y hy⟩
        · rintro ⟨hy, hlt⟩
          rcases List.mem_cons.1 hy with rfl | hy
          · omega
          · exact hy
    · rw [if_neg hax, if_neg hax]
      have hxl : x ∈ l := by
        rcases List.mem_cons.1 hx with e | hx
        · exact absurd e.symm hax
        · exact hx
      obtain ⟨i1, i2⟩ := sorted_parts h2 hxl
      have hxa := h1 x hxl
      constructor
      · intro y
        rw [List.mem_cons, i1 y, List.mem_cons]
        constructor
        · rintro (rfl | ⟨hy, hle⟩)
          · exact ⟨.inl rfl, by omega⟩
          · exact ⟨.inr hy, hle⟩
        · rintro ⟨rfl | hy, hle⟩
          · exact .inl rfl
          · exact .inr ⟨hy, hle⟩
      · intro y
        rw [i2 y, List.mem_cons]
        constructor
        · rintro ⟨hy, hlt⟩; exact ⟨.inr hy, hlt⟩
        · rintro ⟨rfl | hy, hlt⟩
          · omega
          · exact ⟨hy, hlt⟩

/-- The part that is taken from the stack: just the nodes that come to its root and to which it comes. -/
theorem TInv.part {x : Nat} (h : TInv adj good s ((x, []) :: fs)) (hlow : s.low x = s.ix x) (y : Nat) : (y ∈ s.stack ∧ s.ix x ≤ s.ix y) ↔ (Rch adj x y ∧ Rch adj y x) := by
  have hx0 : (x, ([] : List (Nat × Nat))) ∈ (x, []) :: fs := List.mem_cons_self ..
  have hxs := h.fon _ hx0
  obtain ⟨dx, hdx, hall⟩ := h.rem _ hx0
  rw [List.append_nil] at hdx
  simp only at hdx hall
  -- what is reached from the part lies in it, or is done with
  have hclosed : ∀ a, (s.index a ≠ none ∧ (a ∈ s.stack → s.ix x ≤ s.ix a)) → ∀ e ∈ adj a, (s.index e.1 ≠ none ∧ (e.1 ∈ s.stack → s.ix x ≤ s.ix e.1)) := by
    rintro a ⟨ha1, ha2⟩ e he
    by_cases has : a ∈ s.stack
    · have hle := ha2 has
      by_cases hax : a = x
      · subst hax
        obtain ⟨h1, h2⟩ := hall e (by rw [← hdx]; exact he)
        exact ⟨h1, fun hm => by rw [← hlow]; exact h2 hm⟩
      · have haf : a ∉ ((x, []) :: fs).map Prod.fst := by
          intro hm
          rcases List.mem_cons.1 hm with e1 | hm
          · exact hax e1
          · obtain ⟨f, hf, hfa⟩ := List.mem_map.1 hm
            have := List.rel_of_pairwise_cons h.fsorted (List.mem_map_of_mem (f := Prod.fst) hf)
            rw [hfa] at this
            simp only at this
            omega
        refine ⟨h.black a has haf e he, fun hm => ?_⟩
        rw [← hlow]
        exact h.owner a has haf (x, []) hx0 hle (fun g hg _ => h.head_ge rfl hg) e he hm
    · obtain ⟨h1, h2⟩ := h.closed a ha1 has e he
      exact ⟨h1, fun hm => absurd hm h2⟩
  constructor
  · rintro ⟨hys, hle⟩
    refine ⟨h.up x hxs y hys hle, ?_⟩
    obtain ⟨f, hf, h1, h2⟩ := h.gray y hys
    rcases List.mem_cons.1 hf with rfl | hf
    · exact h2
    · have hlt := List.rel_of_pairwise_cons h.fsorted (List.mem_map_of_mem (f := Prod.fst) hf)
      have hc := h2.carry (P := fun a => s.index a ≠ none ∧ (a ∈ s.stack → s.ix x ≤ s.ix a)) ⟨h.vis y hys, fun _ => hle⟩ hclosed
      have := hc.2 (h.fon f (List.mem_cons_of_mem _ hf))
      simp only at hlt
      omega
  · rintro ⟨hxy, hyx⟩
    have hc := hxy.carry (P := fun a => s.index a ≠ none ∧ (a ∈ s.stack → s.ix x ≤ s.ix a)) ⟨h.vis x hxs, fun _ => Nat.le_refl _⟩ hclosed
    by_cases hys : y ∈ s.stack
    · exact ⟨hys, hc.2 hys⟩
    · have := hyx.carry (P := fun a => s.index a ≠ none ∧ a ∉ s.stack) ⟨hc.1, hys⟩ (fun a ha e he => h.closed a ha.1 ha.2 e he)
      exact absurd hxs this.2

/-- The frame ahead is done, and is the root of a part that is not good: the part is taken away. -/
theorem TInv.popped {x : Nat} (h : TInv adj good s ((x, []) :: fs)) (hlow : s.low x = s.ix x) (hg : ¬ good x) (hgood : ∀ y, Rch adj x y → Rch adj y x → good y → good x) : TInv adj good (s.pop x) fs := by
  have hx0 : (x, ([] : List (Nat × Nat))) ∈ (x, []) :: fs := List.mem_cons_self ..
  have hxs := h.fon _ hx0
  obtain ⟨hseg, hrest⟩ := sorted_parts h.sorted hxs
  have hlt : ∀ g ∈ fs, s.ix g.1 < s.ix x := fun g hg => List.rel_of_pairwise_cons h.fsorted (List.mem_map_of_mem (f := Prod.fst) hg)
  have hsub : ∀ y, y ∈ (s.pop x).stack ↔ y ∈ s.stack ∧ s.ix y < s.ix x := hrest
  have hnf : ∀ y, y ∈ (s.pop x).stack → y ∉ fs.map Prod.fst → y ∉ ((x, []) :: fs).map Prod.fst := by
    intro y hy hyf hm
    rcases List.mem_cons.1 hm with e1 | hm
    · subst e1
      exact absurd ((hsub _).1 hy).2 (Nat.lt_irrefl _)
    · exact hyf hm
  have hpart := h.part hlow
  constructor
  · exact h.lt
  · exact h.inj
  · exact fun y hy => h.vis y ((hsub y).1 hy).1
  · have hs : (under x s.stack).Sublist s.stack := by
      have := part_under x s.stack
      conv => rhs; rw [← this]
      exact List.sublist_append_right _ _
    exact h.sorted.sublist hs
  · exact (List.pairwise_cons.1 h.fsorted).2
  · exact fun f hf => (hsub _).2 ⟨h.fon f (List.mem_cons_of_mem _ hf), hlt f hf⟩
  · intro f hf
    obtain ⟨d, h1, h2⟩ := h.rem f (List.mem_cons_of_mem _ hf)
    exact ⟨d, h1, fun e he => ⟨(h2 e he).1, fun hm => (h2 e he).2 ((hsub _).1 hm).1⟩⟩
  · intro y hy hys e he
    by_cases hyo : y ∈ s.stack
    · have hle : s.ix x ≤ s.ix y := by
        by_cases hh : s.ix y < s.ix x
        · exact absurd ((hsub y).2 ⟨hyo, hh⟩) hys
        · omega
      obtain ⟨hxy, hyx⟩ := (hpart y).1 ⟨hyo, hle⟩
      -- whoever is reached from x is visited; if it were left on the stack it would come back to x
      have hev : s.index e.1 ≠ none := by
        obtain ⟨dx, hdx, hall⟩ := h.rem _ hx0
        rw [List.append_nil] at hdx
        simp only at hdx hall
        by_cases hyx' : y = x
        · subst hyx'; exact (hall e (by rw [← hdx]; exact he)).1
        · refine h.black y hyo (fun hm => ?_) e he
          rcases List.mem_cons.1 hm with e1 | hm
          · exact hyx' e1
          · obtain ⟨f, hf, hfa⟩ := List.mem_map.1 hm
            have := hlt f hf
            rw [hfa] at this
            omega
      refine ⟨hev, fun hm => ?_⟩
      obtain ⟨hes, hel⟩ := (hsub _).1 hm
      have hback : Rch adj e.1 x := h.up e.1 hes x hxs (Nat.le_of_lt hel)
      have := (hpart e.1).2 ⟨hxy.tail he, hback⟩
      omega
    · obtain ⟨h1, h2⟩ := h.closed y hy hyo e he
      exact ⟨h1, fun hm => h2 ((hsub _).1 hm).1⟩
  · intro y hy hyf
    exact h.black y ((hsub y).1 hy).1 (hnf y hy hyf)
  · intro y hy hyf f hf hfy hmax e he hes
    refine h.owner y ((hsub y).1 hy).1 (hnf y hy hyf) f (List.mem_cons_of_mem _ hf) hfy (fun g hg hgy => ?_) e he ((hsub _).1 hes).1
    rcases List.mem_cons.1 hg with rfl | hg
    · have := ((hsub y).1 hy).2
      change s.ix x ≤ s.ix y at hgy
      omega
    · exact hmax g hg hgy
  · exact fun y hy z hz hyz => h.up y ((hsub y).1 hy).1 z ((hsub z).1 hz).1 hyz
  · intro y hy
    obtain ⟨f, hf, h1, h2⟩ := h.gray y ((hsub y).1 hy).1
    rcases List.mem_cons.1 hf with rfl | hf
    · have h3 := ((hsub y).1 hy).2
      have h4 : s.ix x ≤ s.ix y := h1
      omega
    · exact ⟨f, hf, h1, h2⟩
  · exact fun f hf => h.lowle f (List.mem_cons_of_mem _ hf)
  · intro f hf
    obtain ⟨z, hz, h1, h2⟩ := h.lowat f (List.mem_cons_of_mem _ hf)
    have h3 := h.lowle f (List.mem_cons_of_mem _ hf)
    have h4 := hlt f hf
    exact ⟨z, (hsub z).2 ⟨hz, by omega⟩, h1, h2⟩
  · intro y hy hys
    by_cases hyo : y ∈ s.stack
    · have hle : s.ix x ≤ s.ix y := by
        by_cases hh : s.ix y < s.ix x
        · exact absurd ((hsub y).2 ⟨hyo, hh⟩) hys
        · omega
      obtain ⟨hxy, hyx⟩ := (hpart y).1 ⟨hyo, hle⟩
      exact fun hgy => hg (hgood y hxy hyx hgy)
    · exact h.bad y hy hyo

/-- At the end, nothing that was met is good, and what is met is closed. -/
theorem TInv.over (h : TInv adj good s []) {x y : Nat} (hx : s.index x ≠ none) (hr : Rch adj x y) : ¬ good y := by
  have he := h.empty
  have hc := hr.carry (P := fun a => s.index a ≠ none) hx (fun a ha e hm => (h.closed a ha (by rw [he]; exact List.not_mem_nil) e hm).1)
  exact h.bad y hc (by rw [he]; exact List.not_mem_nil)
end
end Go.Proofs.YtelanndleinabaaDoor
