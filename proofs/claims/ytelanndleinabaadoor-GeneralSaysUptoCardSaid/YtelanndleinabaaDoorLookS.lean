/- The search's steps, with how many of a frame's moves are done. -/
import Derived.Test.YtelanndleinabaaDoorPartS
namespace Go.Proofs.YtelanndleinabaaDoor
open Go.RowKit
set_option linter.unusedVariables false

def Lows (adj : Adj) (l : List (Nat × Nat)) : List TFrame := l.map fun d => (d.1, (adj d.1).drop (d.2 - 1))
/-- The frames of the plain search: the frame ahead, and those below, of which each has one move begun. -/
def Fs (adj : Adj) : List (Nat × Nat) → List TFrame
  | [] => []
  | d :: r => (d.1, (adj d.1).drop d.2) :: Lows adj r
def Linked (adj : Adj) : List (Nat × Nat) → Prop
  | [] => True
  | [_] => True
  | d :: e :: r => (1 ≤ e.2 ∧ ∃ m, (adj e.1)[e.2 - 1]? = some m ∧ m.1 = d.1) ∧ Linked adj (e :: r)
theorem Linked.top {adj : Adj} {x k k' : Nat} {r : List (Nat × Nat)} (h : Linked adj ((x, k) :: r)) : Linked adj ((x, k') :: r) := by
  cases r with
  | nil => exact trivial
  | cons e r => exact h
theorem Linked.tail {adj : Adj} {d : Nat × Nat} {r : List (Nat × Nat)} (h : Linked adj (d :: r)) : Linked adj r := by
  cases r with
  | nil => exact trivial
  | cons e r => exact h.2

structure LInv (adj : Adj) (good : Nat → Prop) (root : Nat) (s : TSt) (fr : List (Nat × Nat)) : Prop where
  inv : TInv adj good s (Fs adj fr)
  link : Linked adj fr
  len : ∀ d ∈ fr, d.2 ≤ (adj d.1).length
  src : ∀ d ∈ fr, Rch adj root d.1

section
variable {adj : Adj} {good : Nat → Prop} {root : Nat} {s : TSt} {x k : Nat} {r : List (Nat × Nat)} {e : Nat × Nat}
theorem drop_eq {A : Type} {l : List A} {k : Nat} {e : A} (h : l[k]? = some e) : l.drop k = e :: l.drop (k + 1) := drop_at h
theorem LInv.start (h : TInv adj good s []) (hr : s.index root = none) : LInv adj good root (s.enter root) [(root, 0)] := by
  refine ⟨?_, trivial, ?_, ?_⟩
  · have := h.enter hr (fun y hy => by rw [h.empty] at hy; cases hy)
    exact this
  · intro d hd
    rw [List.mem_singleton.1 hd]; exact Nat.zero_le _
  · intro d hd
    rw [List.mem_singleton.1 hd]; exact Rch.refl
theorem LInv.topOn (h : LInv adj good root s ((x, k) :: r)) : x ∈ s.stack := h.inv.fon (x, (adj x).drop k) (List.mem_cons_self ..)
theorem LInv.next (h : LInv adj good root s ((x, k) :: r)) (he : (adj x)[k]? = some e) (hT : TInv adj good s ((x, (adj x).drop (k + 1)) :: Lows adj r)) : LInv adj good root s ((x, k + 1) :: r) := by
  refine ⟨hT, h.link.top, ?_, ?_⟩
  · intro d hd
    rcases List.mem_cons.1 hd with rfl | hd
    · have := (List.getElem?_eq_some_iff.1 he).1
      exact this
    · exact h.len d (List.mem_cons_of_mem _ hd)
  · intro d hd
    rcases List.mem_cons.1 hd with rfl | hd
    · exact h.src (x, k) (List.mem_cons_self ..)
    · exact h.src d (List.mem_cons_of_mem _ hd)
theorem LInv.off (h : LInv adj good root s ((x, k) :: r)) (he : (adj x)[k]? = some e) (hv : s.index e.1 ≠ none) (hs : e.1 ∉ s.stack) : LInv adj good root s ((x, k + 1) :: r) := by
  refine h.next he ?_
  have hi : TInv adj good s ((x, e :: (adj x).drop (k + 1)) :: Lows adj r) := by rw [← drop_eq he]; exact h.inv
  exact hi.done hv (fun hm => absurd hm hs)
theorem LInv.on_ (h : LInv adj good root s ((x, k) :: r)) (he : (adj x)[k]? = some e) (hs : e.1 ∈ s.stack) : LInv adj good root (s.lower x (s.ix e.1)) ((x, k + 1) :: r) := by
  have hl : LInv adj good root (s.lower x (s.ix e.1)) ((x, k) :: r) := ⟨h.inv.lower hs (Rch.one (List.mem_of_getElem? he)), h.link, h.len, h.src⟩
  refine hl.next he ?_
  have hi : TInv adj good (s.lower x (s.ix e.1)) ((x, e :: (adj x).drop (k + 1)) :: Lows adj r) := by rw [← drop_eq he]; exact hl.inv
  exact hi.done (h.inv.vis e.1 hs) (fun _ => by rw [lower_low_same, lower_ix]; omega)
theorem LInv.enter (h : LInv adj good root s ((x, k) :: r)) (he : (adj x)[k]? = some e) (hv : s.index e.1 = none) : LInv adj good root (s.enter e.1) ((e.1, 0) :: (x, k + 1) :: r) := by
  have hm := List.mem_of_getElem? he
  have hk := (List.getElem?_eq_some_iff.1 he).1
  refine ⟨?_, ⟨⟨by omega, e, by simpa using he, rfl⟩, h.link.top⟩, ?_, ?_⟩
  · refine h.inv.enter hv fun y hy => ?_
    obtain ⟨f, hf, hle, hyf⟩ := h.inv.gray y hy
    have hge := h.inv.head_ge (x := x) (r := (adj x).drop k) (gs := Lows adj r) rfl hf
    have hup := h.inv.up f.1 (h.inv.fon f hf) x h.topOn hge
    exact (hyf.trans hup).trans (Rch.one hm)
  · intro d hd
    rcases List.mem_cons.1 hd with rfl | hd
    · exact Nat.zero_le _
    · rcases List.mem_cons.1 hd with rfl | hd
      · exact hk
      · exact h.len d (List.mem_cons_of_mem _ hd)
  · intro d hd
    have hx : Rch adj root x := h.src (x, k) (List.mem_cons_self ..)
    rcases List.mem_cons.1 hd with rfl | hd
    · show Rch adj root e.1
      exact hx.tail hm
    · rcases List.mem_cons.1 hd with rfl | hd
      · exact hx
      · exact h.src d (List.mem_cons_of_mem _ hd)
/-- A frame that is done with: the low number of the one below is lowered. -/
theorem LInv.lows {u ku : Nat} (h : LInv adj good root s ((x, k) :: (u, ku) :: r)) : LInv adj good root (s.lower u (s.low x)) ((x, k) :: (u, ku) :: r) := by
  obtain ⟨z, hz, hzl, hxz⟩ := h.inv.lowat (x, (adj x).drop k) (List.mem_cons_self ..)
  have hzl' : s.low x = s.ix z := hzl.symm
  obtain ⟨⟨h1, m, hm, hmx⟩, _⟩ := h.link
  have hmx' : m.1 = x := hmx
  have hux : Rch adj u x := by rw [← hmx']; exact Rch.one (List.mem_of_getElem? hm)
  rw [hzl']
  exact ⟨h.inv.lower hz (hux.trans hxz), h.link, h.len, h.src⟩
theorem LInv.alone (h : LInv adj good root s [(x, k)]) : s.low x = s.ix x := by
  obtain ⟨z, hz, hzl, hxz⟩ := h.inv.lowat (x, (adj x).drop k) (List.mem_cons_self ..)
  obtain ⟨f, hf, hle, _⟩ := h.inv.gray z hz
  have hl := h.inv.lowle (x, (adj x).drop k) (List.mem_cons_self ..)
  have hfx : f = (x, (adj x).drop k) := List.mem_singleton.1 hf
  subst hfx
  simp only at hle hl hzl
  omega
theorem LInv.ended (h : LInv adj good root s ((x, (adj x).length) :: r)) : TInv adj good s ((x, []) :: Lows adj r) := by
  have : TInv adj good s ((x, (adj x).drop (adj x).length) :: Lows adj r) := h.inv
  rwa [List.drop_length] at this
theorem LInv.leave {u ku : Nat} (h : LInv adj good root s ((x, (adj x).length) :: (u, ku) :: r)) (hlow : s.low x ≠ s.ix x) (hu : s.low u ≤ s.low x) : LInv adj good root s ((u, ku) :: r) := by
  have hl := h.inv.lowle (x, (adj x).drop (adj x).length) (List.mem_cons_self ..)
  have hi := h.ended.leave (by simp only at hl; omega) hu
  obtain ⟨⟨h1, m, hm, hmx⟩, _⟩ := h.link
  have hd : (adj u).drop (ku - 1) = m :: (adj u).drop ku := by
    rw [drop_eq hm]; congr 2; simp only at h1; omega
  have hi' : TInv adj good s ((u, m :: (adj u).drop ku) :: Lows adj r) := by rw [← hd]; exact hi
  refine ⟨hi'.done ?_ fun _ => ?_, h.link.tail, fun d hd => h.len d (List.mem_cons_of_mem _ hd), fun d hd => h.src d (List.mem_cons_of_mem _ hd)⟩
  · simp only at hmx; rw [hmx]; exact h.inv.vis x h.topOn
  · simp only at hmx hl; rw [hmx]; omega
theorem LInv.popped (h : LInv adj good root s ((x, (adj x).length) :: r)) (hlow : s.low x = s.ix x) (hg : ¬ good x) (hgood : ∀ y, Rch adj x y → Rch adj y x → good y → good x) : LInv adj good root (s.pop x) r := by
  have hi := h.ended.popped hlow hg hgood
  cases r with
  | nil => exact ⟨hi, trivial, (fun d hd => by cases hd), (fun d hd => by cases hd)⟩
  | cons uk r =>
    obtain ⟨u, ku⟩ := uk
    obtain ⟨⟨h1, m, hm, hmx⟩, _⟩ := h.link
    have hd : (adj u).drop (ku - 1) = m :: (adj u).drop ku := by
      rw [drop_eq hm]; congr 2; simp only at h1; omega
    have hi' : TInv adj good (s.pop x) ((u, m :: (adj u).drop ku) :: Lows adj r) := by rw [← hd]; exact hi
    have hxo := h.topOn
    have hxu : x ∉ (s.pop x).stack := by
      intro hm
      have := ((sorted_parts h.inv.sorted hxo).2 x).1 hm
      omega
    refine ⟨hi'.done ?_ fun hm => ?_, h.link.tail, fun d hd => h.len d (List.mem_cons_of_mem _ hd), fun d hd => h.src d (List.mem_cons_of_mem _ hd)⟩
    · simp only at hmx; rw [hmx]; exact h.inv.vis x hxo
    · simp only at hmx; rw [hmx] at hm; exact absurd hm hxu
end

/-- A part that comes round, and has moves of all sets within. -/
def inScc (adj : Adj) (x : Nat) (e : Nat × Nat) : Prop := ∃ k, (Rch adj x k ∧ Rch adj k x) ∧ e ∈ adj k ∧ (Rch adj x e.1 ∧ Rch adj e.1 x)
def goodP (adj : Adj) (S : Nat) (x : Nat) : Prop := (∃ e, inScc adj x e) ∧ ∀ j, S.testBit j = true ↔ ∃ e, inScc adj x e ∧ e.2.testBit j = true
theorem AccOf.verdict {SS S : Nat} {RR : Bool} {E : Nat × Nat → Prop} (h : AccOf SS RR E) : (RR && (SS == S)) = true ↔ (∃ e, E e) ∧ ∀ j, S.testBit j = true ↔ ∃ e, E e ∧ e.2.testBit j = true := by
  rw [Bool.and_eq_true, h.2.2]
  constructor
  · rintro ⟨h1, h2⟩
    have : SS = S := by simpa using h2
    subst this
    exact ⟨h1, h.2.1⟩
  · rintro ⟨h1, h2⟩
    refine ⟨h1, ?_⟩
    have : SS = S := Nat.eq_of_testBit_eq fun j => by
      rw [Bool.eq_iff_iff, h.2.1 j, h2 j]
    simp [this]
theorem goodP_same {adj : Adj} {S x y : Nat} (h1 : Rch adj x y) (h2 : Rch adj y x) (hy : goodP adj S y) : goodP adj S x := by
  have hE : ∀ e, inScc adj y e ↔ inScc adj x e := fun e => by
    constructor
    · rintro ⟨k, ⟨a, b⟩, c, d, f⟩; exact ⟨k, ⟨h1.trans a, b.trans h2⟩, c, h1.trans d, f.trans h2⟩
    · rintro ⟨k, ⟨a, b⟩, c, d, f⟩; exact ⟨k, ⟨h2.trans a, b.trans h1⟩, c, h2.trans d, f.trans h1⟩
  obtain ⟨⟨e, he⟩, hb⟩ := hy
  refine ⟨⟨e, (hE e).1 he⟩, fun j => ?_⟩
  rw [hb j]
  simp only [hE]
theorem inPart_scc {adj : Adj} {good : Nat → Prop} {root x : Nat} {s : TSt} {r : List (Nat × Nat)} (h : LInv adj good root s ((x, (adj x).length) :: r)) (hlow : s.low x = s.ix x) (e : Nat × Nat) : inPart adj (part_ x s.stack) e ↔ inScc adj x e := by
  have hp : ∀ y, y ∈ part_ x s.stack ↔ Rch adj x y ∧ Rch adj y x := fun y => ((sorted_parts h.inv.sorted h.topOn).1 y).trans (h.ended.part hlow y)
  unfold inPart inScc
  constructor
  · rintro ⟨k, a, b, c⟩; exact ⟨k, (hp k).1 a, b, (hp _).1 c⟩
  · rintro ⟨k, a, b, c⟩; exact ⟨k, (hp k).2 a, b, (hp _).2 c⟩
theorem LInv.nodup {adj : Adj} {good : Nat → Prop} {root : Nat} {s : TSt} {fr : List (Nat × Nat)} (h : LInv adj good root s fr) : s.stack.Pairwise (· ≠ ·) :=
  h.inv.sorted.imp fun {a b} hab e => by subst e; omega
theorem lowF_lower {s : TSt} {x v : Nat} (hx : s.index x ≠ none) : lowF (s.lower x v) = upd (lowF s) x (some (min (s.low x) v)) := by
  funext y
  unfold lowF TSt.lower upd
  by_cases h : y = x
  · subst h
    cases hi : s.index y with
    | none => exact absurd hi hx
    | some a => simp
  · simp [h]
theorem lowF_at {s : TSt} {x : Nat} (hx : s.index x ≠ none) : (lowF s x).getD 0 = s.low x := by
  unfold lowF
  cases hi : s.index x with
  | none => exact absurd hi hx
  | some a => rfl
theorem TPure.lower {N x v : Nat} {s : TSt} (h : TPure N s) : TPure N (s.lower x v) := by
  refine ⟨h.cnt, h.vis, fun y a hy => ⟨(h.ilt y a hy).1, ?_⟩, h.slen, h.sub⟩
  have := (h.ilt y a hy).2
  have h2 : (s.lower x v).low y ≤ s.low y := lower_le
  omega

/-! ### the row of frames -/
abbrev FD := Nat × Value × Nat
def fcells (d : FD) : List Value := [.int .i64 (d.1 : Int), d.2.1, .int .i64 (d.2.2 : Int)]
def fds (ds : List FD) : List Value := ds.flatMap fcells
theorem fds_len (ds : List FD) : (fds ds).length = ds.length * 3 := by
  induction ds with
  | nil => rfl
  | cons d ds ih =>
    have : fds (d :: ds) = fcells d ++ fds ds := by simp [fds]
    rw [this, List.length_append, ih, List.length_cons]
    simp [fcells]; omega
theorem fds_snoc (ds : List FD) (d : FD) : fds (ds ++ [d]) = fds ds ++ fcells d := by simp [fds]
structure Frs (β : Nat) (g : Gen) (l : Las) (w : World) (v : Value) (td : List FD) : Prop where
  row : w.ownsRow β 96 3 v td.length (fds td.reverse)
  each : ∀ d ∈ td, w.ownsRow β 67 2 d.2.1 (stepsOf g l d.1).length (stps (stepsOf g l d.1))
def frOf (td : List FD) : List (Nat × Nat) := td.map fun d => (d.1, d.2.2)
section
variable {β : Nat} {g : Gen} {l : Las} {w w' : World} {v : Value} {td : List FD}
theorem Frs.kp (h : Frs β g l w v td) (hk : Kp w w') : Frs β g l w' v td :=
  ⟨hk.owns h.row (by decide) (by decide), fun d hd => hk.owns (h.each d hd) (by decide) (by decide)⟩
theorem Frs.drew (h : Frs β g l w v td) : Frs β g l w.drew v td := ⟨h.row, h.each⟩
theorem Frs.drewN (h : Frs β g l w v td) (n : Nat) : Frs β g l (w.drewN n) v td := ⟨h.row, h.each⟩
theorem own_holds {base gg m n cap size : Nat} {e : TypeId} {xs : List Value} (h : w.ownsRow base e size (.slice (some ⟨gg, 0, none⟩) m cap) n xs) : base ≤ gg ∧ gg < w.heap.size ∧ ∃ cs, Holds w gg e cs := by
  rcases h.2 with ⟨h0, h1⟩ | ⟨g', cap', cur, hv, hb, hg, hnc, hcm, hcs, ht⟩
  · cases h0
  · injection hv with h1 h2 h3
    injection h1 with h1
    injection h1 with h1
    subst h1
    exact ⟨hb, (Array.getElem?_eq_some_iff.1 hg).1, cur.toList, by unfold Holds; rw [hg]⟩
theorem own_truncS {base gg n cap m size : Nat} {e : TypeId} {xs : List Value} (h : w.ownsRow base e size (.slice (some ⟨gg, 0, none⟩) n cap) n xs) (hm : m ≤ n) : w.ownsRow base e size (.slice (some ⟨gg, 0, none⟩) m cap) m (xs.take (m * size)) := by
  have hl := h.1
  have hle := Nat.mul_le_mul_right size hm
  rcases h.2 with ⟨h0, h1⟩ | ⟨g', cap', cur, hv, hb, hg, hnc, hcm, hcs, ht⟩
  · cases h0
  · injection hv with h1 h2 h3
    injection h1 with h1
    injection h1 with h1
    subst h1; subst h3
    refine ⟨by rw [List.length_take]; omega, .inr ⟨gg, cap, cur, rfl, hb, hg, by omega, hcm, hcs, ?_⟩⟩
    rw [← ht, List.take_take]
    congr 1
    omega
/-- The top frame's cells. -/
theorem Frs.top {x k gR n cap : Nat} {lv : Value} {tr : List FD} (h : Frs β g l w (.slice (some ⟨gR, 0, none⟩) n cap) ((x, lv, k) :: tr)) :
    w.cell? ⟨gR, tr.length * 3, none⟩ = some (.int .i64 (x : Int)) ∧ w.cell? ⟨gR, tr.length * 3 + 1, none⟩ = some lv ∧ w.cell? ⟨gR, tr.length * 3 + 2, none⟩ = some (.int .i64 (k : Int)) := by
  have hf : fds ((x, lv, k) :: tr).reverse = fds tr.reverse ++ fcells (x, lv, k) := by rw [List.reverse_cons, fds_snoc]
  have hl : (fds tr.reverse).length = tr.length * 3 := by rw [fds_len, List.length_reverse]
  have hc := h.row
  rw [hf] at hc
  refine ⟨?_, ?_, ?_⟩
  · rw [own_cell hc (by simp only [List.length_cons]; omega), List.getElem?_append_right (by omega), hl, Nat.sub_self]; rfl
  · rw [own_cell hc (by simp only [List.length_cons]; omega), List.getElem?_append_right (by omega), hl, Nat.add_sub_cancel_left]; rfl
  · rw [own_cell hc (by simp only [List.length_cons]; omega), List.getElem?_append_right (by omega), hl, Nat.add_sub_cancel_left]; rfl
theorem own_len {base n m cap size : Nat} {a : Option Addr} {e : TypeId} {xs : List Value} (h : w.ownsRow base e size (.slice a m cap) n xs) : m = n := by
  rcases h.2 with ⟨h0, h1⟩ | ⟨g', cap', cur, hv, hb, hg, hnc, hcm, hcs, ht⟩
  · injection h0 with _ h0 _; omega
  · injection hv with _ h2 _
/-- One move more is done of the top frame. -/
theorem Frs.bump {x k gR n cap : Nat} {lv : Value} {tr : List FD} (h : Frs β g l w (.slice (some ⟨gR, 0, none⟩) n cap) ((x, lv, k) :: tr)) :
    Frs β g l (w.setCell ⟨gR, tr.length * 3 + 2, none⟩ (.int .i64 ((k + 1 : Nat) : Int))) (.slice (some ⟨gR, 0, none⟩) n cap) ((x, lv, k + 1) :: tr) := by
  obtain ⟨h1, h2, cs, h3⟩ := own_holds h.row
  have hn := own_len h.row
  subst hn
  have hf : fds ((x, lv, k) :: tr).reverse = fds tr.reverse ++ fcells (x, lv, k) := by rw [List.reverse_cons, fds_snoc]
  have hf2 : fds ((x, lv, k + 1) :: tr).reverse = fds tr.reverse ++ fcells (x, lv, k + 1) := by rw [List.reverse_cons, fds_snoc]
  have hl : (fds tr.reverse).length = tr.length * 3 := by rw [fds_len, List.length_reverse]
  refine ⟨?_, ?_⟩
  · have := h.row.stored (tr.length * 3 + 2) (.int .i64 ((k + 1 : Nat) : Int))
    rw [hf] at this
    rw [hf2]
    rw [List.set_append_right _ _ (by omega), hl, Nat.add_sub_cancel_left] at this
    exact this.1
  · intro d hd
    have hd' : w.ownsRow β 67 2 d.2.1 (stepsOf g l d.1).length (stps (stepsOf g l d.1)) := by
      rcases List.mem_cons.1 hd with rfl | hd
      · exact h.each (x, lv, k) (List.mem_cons_self ..)
      · exact h.each d (List.mem_cons_of_mem _ hd)
    exact own_put hd' h3 (by decide)
theorem Frs.pop {x k gR n cap : Nat} {lv : Value} {tr : List FD} (h : Frs β g l w (.slice (some ⟨gR, 0, none⟩) n cap) ((x, lv, k) :: tr)) : Frs β g l w (.slice (some ⟨gR, 0, none⟩) tr.length cap) tr := by
  have hn := own_len h.row
  subst hn
  have hf : fds ((x, lv, k) :: tr).reverse = fds tr.reverse ++ fcells (x, lv, k) := by rw [List.reverse_cons, fds_snoc]
  have hl : (fds tr.reverse).length = tr.length * 3 := by rw [fds_len, List.length_reverse]
  have := own_truncS h.row (m := tr.length) (by simp)
  rw [hf, ← hl, List.take_left] at this
  exact ⟨this, fun d hd => h.each d (List.mem_cons_of_mem _ hd)⟩
/-- The row has grown by a frame. -/
theorem Frs.push {x : Nat} {lv v' : Value} (h : Frs β g l w v td) (hr : w'.ownsRow β 96 3 v' (td.length + 1) (fds td.reverse ++ fcells (x, lv, 0))) (hk : ∀ v n xs, w.ownsRow β 67 2 v n xs → w'.ownsRow β 67 2 v n xs)
    (hl : w.ownsRow β 67 2 lv (stepsOf g l x).length (stps (stepsOf g l x))) : Frs β g l w' v' ((x, lv, 0) :: td) := by
  refine ⟨?_, ?_⟩
  · rw [List.reverse_cons, fds_snoc]; exact hr
  · intro d hd
    rcases List.mem_cons.1 hd with rfl | hd
    · exact hk _ _ _ hl
    · exact hk _ _ _ (h.each d hd)
end

section
variable (w : World) {ops : Array Oper} {rest : List Oper} {o : Oper} {a : Act} {Q : Exit → Act → World → Prop} {b N : Nat} {f : Nat → Option Nat} {g : Nat → Option Unit}
theorem wpList_igetokc (hg : o.guard = none) (m x : Operand) (hop : o.op = Op.lookup 70 m x true) (hm : a.eval m = .map (some b)) (hown : IMap w b N f) (y : Nat) (hx : a.eval x = .int .i64 (y : Int)) (hy : y < N) (hN : N < 4611686018427387904)
    (c : Nat) (bo : Bool) (hc : (f y).getD 0 = c) (hb : (f y).isSome = bo)
    (hK : wpList Tryd.prog ops Q rest (a.put o.dst (.tuple #[.int .i64 (c : Int), .bool bo])) w) : wpList Tryd.prog ops Q (o :: rest) a w :=
  wpList_igetok w hg m x hop hm hown y hx hy hN (by rw [hc, hb]; exact hK)
theorem wpList_bgetc (hg : o.guard = none) (m x : Operand) (hop : o.op = Op.lookup 71 m x false) (hm : a.eval m = .map (some b)) (hown : BMap w b N g) (y : Nat) (hx : a.eval x = .int .i64 (y : Int)) (hy : y < N) (hN : N < 4611686018427387904)
    (bo : Bool) (hb : (g y).isSome = bo) (hK : wpList Tryd.prog ops Q rest (a.put o.dst (.bool bo)) w) : wpList Tryd.prog ops Q (o :: rest) a w :=
  wpList_bget w hg m x hop hm hown y hx hy hN (by rw [hb]; exact hK)
end
theorem own_pair {w : World} {b1 b2 s1 s2 n1 n2 : Nat} {e1 e2 : TypeId} {v1 v2 : Value} {x1 x2 : List Value} (h1 : w.ownsRow b1 e1 s1 v1 n1 x1) (h2 : w.ownsRow b2 e2 s2 v2 n2 x2) (hne : e1 ≠ e2) : v1.ownBlock = none ∨ v1.ownBlock ≠ v2.ownBlock := by
  rcases h1.2 with ⟨rfl, _⟩ | ⟨g1, c1, u1, rfl, _, hh1, _⟩
  · exact .inl rfl
  · rcases h2.2 with ⟨rfl, _⟩ | ⟨g2, c2, u2, rfl, _, hh2, _⟩
    · exact .inr (by simp [Value.ownBlock])
    · refine .inr fun e => ?_
      have : g1 = g2 := by simpa [Value.ownBlock] using e
      subst this
      rw [hh1] at hh2
      injection hh2 with hh
      injection hh with _ ht
      exact hne ht
theorem TMem.rowGrown {β T mi ml mo N S base size n : Nat} {fv vs v : Value} {w w' : World} {fi fl : Nat → Option Nat} {fo : Nat → Option Unit} {st : List Nat} {xs : List Value} (h : TMem β T mi ml mo N S fv vs w fi fl fo st)
    (ho : w.ownsRow base 96 size v n xs) (hg : w.grownBy w' v.ownBlock) : TMem β T mi ml mo N S fv vs w' fi fl fo st := by
  have hr : ∀ {b : Nat}, (∃ es clock, w.heap[b]? = some (.map es clock)) → (some b : Option Nat) ≠ v.ownBlock := fun hb e => ownBlock_ne_map ho hb e.symm
  exact ⟨h.t.of_eq (hg.block _ h.t.lt (fun e => owns_ne_holds ho h.t (by decide) e.symm)), h.bt, h.index.of_eq (hg.block _ h.index.lt (hr h.index.obj)), h.low.of_eq (hg.block _ h.low.lt (hr h.low.obj)), h.on.of_eq (hg.block _ h.on.lt (hr h.on.obj)), h.stack.kept hg (own_pair h.stack ho (by decide))⟩
end Go.Proofs.YtelanndleinabaaDoor
