/- Looking for failing moves and bad ends, plain: the search, step by step, and what it tells. -/
import Derived.Test.YtpednhcfkjjcpaaGsy
import Derived.Test.YtpednhcfkjjcpaaEx
namespace Go.Proofs.Ytpednhcfkjjcpaa.G
open Go.RowKit
set_option linter.unusedVariables false
set_option linter.unusedSimpArgs false

/-- What is reached. -/
inductive Rch (S : Sys) : ByteArray → Prop
  | beg : Rch S S.beg
  | step {s : ByteArray} {m : PMove} (h : Rch S s) (hm : m ∈ S.next s) (hb : m.bad = 0) : Rch S m.dst
/-- Moves one behind the other, none of which fails. -/
inductive Walk (S : Sys) : ByteArray → List PMove → ByteArray → Prop
  | nil (s : ByteArray) : Walk S s [] s
  | snoc {s e : ByteArray} {p : List PMove} {m : PMove} (h : Walk S s p e) (hm : m ∈ S.next e) (hb : m.bad = 0) : Walk S s (p ++ [m]) m.dst
structure POpt where
  depth : Int
  states : Int
  bytes : Int
  ends : Bool
  prog : Bool
  ample : Bool
  vis : Nat
structure Frm where
  n : Nat
  s : ByteArray
  l : List PMove
  k : Nat
/-- The search: what is stored, and (told nowhere) which moves are followed; the way, the last one ahead; the moves along it. -/
structure Sr where
  sts : List ByteArray
  cl : List (List PMove)
  way : List Frm
  path : List PMove
  limit : Int
  moves : Nat
  deep : Nat
structure PFound where
  verdict : Int
  why : Int
  path : List PMove
  states : Nat
  moves : Nat
  deep : Nat
def totB (L : List ByteArray) : Nat := (L.map ByteArray.size).sum
inductive PutR
  | old
  | new
  | full (why : Int)
def putP (o : POpt) (L : List ByteArray) (s : ByteArray) : PutR :=
  if s ∈ L then .old
  else if o.states ≤ L.length then .full 104
  else if o.bytes - totB L < s.size then .full 105
  else .new
def viol (x : Sr) (why : Int) : PFound := ⟨2, why, x.path, x.sts.length, x.moves, x.deep⟩
def ended (x : Sr) : PFound := if x.limit = 0 then ⟨1, 0, [], x.sts.length, x.moves, x.deep⟩ else ⟨3, x.limit, [], x.sts.length, x.moves, x.deep⟩
section
variable (S : Sys) (o : POpt) (ch : List ByteArray → ByteArray → List PMove)
/-- A new state is come to. -/
def enterP (x : Sr) (s : ByteArray) : Sr ⊕ PFound :=
  let l := ch (s :: x.way.map (·.s)) s
  let y : Sr := { x with sts := x.sts ++ [s], cl := x.cl ++ [l], way := ⟨x.sts.length, s, l, 0⟩ :: x.way, moves := x.moves + l.length, deep := max x.deep x.path.length }
  if o.ends && (l.isEmpty && !(S.look s).fin) then .inr (viol y 101) else .inl y
def stepP (x : Sr) : Sr ⊕ PFound := match x.way with
  | [] => .inr (ended x)
  | f :: r => match f.l[f.k]? with
    | none => .inl { x with way := r, path := x.path.dropLast }
    | some m =>
      if o.depth ≤ x.path.length then .inl { x with way := { f with k := f.k + 1 } :: r, limit := 103 }
      else if m.bad ≠ 0 then .inr (viol { x with path := x.path ++ [m] } m.bad)
      else match putP o x.sts m.dst with
        | .full why => .inr (ended { x with path := [], limit := why })
        | .old => .inl { x with way := { f with k := f.k + 1 } :: r }
        | .new => enterP S o ch { x with way := { f with k := f.k + 1 } :: r, path := x.path ++ [m] } m.dst
def startP : Sr ⊕ PFound := match putP o [] S.beg with
  | .full why => .inr (ended ⟨[], [], [], [], why, 0, 0⟩)
  | _ => enterP S o ch ⟨[], [], [], [], 0, 0, 0⟩ S.beg
/-- Some steps. -/
inductive Stp : Sr → Sr → Prop
  | refl (x : Sr) : Stp x x
  | tail {x y z : Sr} (h : Stp x y) (hs : stepP S o ch y = .inl z) : Stp x z
/-- What a search comes to. -/
def EndsIn (r : PFound) : Prop := startP S o ch = .inr r ∨ ∃ x y, startP S o ch = .inl x ∧ Stp S o ch x y ∧ stepP S o ch y = .inr r
end
section
variable {S : Sys} {o : POpt} {ch : List ByteArray → ByteArray → List PMove}
theorem Stp.head {x y z : Sr} (h : stepP S o ch x = .inl y) (h2 : Stp S o ch y z) : Stp S o ch x z := by
  induction h2 with
  | refl => exact .tail (.refl _) h
  | tail _ hs ih => exact .tail ih hs
theorem Stp.cases {x z : Sr} (h : Stp S o ch x z) : x = z ∨ ∃ y, stepP S o ch x = .inl y ∧ Stp S o ch y z := by
  induction h with
  | refl => exact .inl rfl
  | tail h1 hs ih =>
    rcases ih with rfl | ⟨y, h2, h3⟩
    · exact .inr ⟨_, hs, .refl _⟩
    · exact .inr ⟨y, h2, .tail h3 hs⟩
theorem stp_behind {x a b y : Sr} {r : PFound} (ha : Stp S o ch x a) (hb : stepP S o ch a = .inl b) (hy : Stp S o ch x y) (hyr : stepP S o ch y = .inr r) : Stp S o ch b y := by
  induction ha generalizing b with
  | refl =>
    rcases hy.cases with rfl | ⟨w, h2, h3⟩
    · rw [hb] at hyr; cases hyr
    · rw [hb] at h2; injection h2 with h2; subst h2; exact h3
  | tail hc hd ih2 =>
    rcases (ih2 hd).cases with rfl | ⟨w, h2, h3⟩
    · rw [hb] at hyr; cases hyr
    · rw [hb] at h2; injection h2 with h2; subst h2; exact h3
theorem stp_end {x y z : Sr} {r r' : PFound} (h : Stp S o ch x y) (hr : stepP S o ch y = .inr r) (h' : Stp S o ch x z) (hr' : stepP S o ch z = .inr r') : r = r' := by
  induction h' with
  | refl =>
    rcases h.cases with rfl | ⟨w, h2, _⟩
    · rw [hr] at hr'; injection hr'
    · rw [hr'] at h2; cases h2
  | tail h1 hs ih =>
    rename_i a b
    rcases (stp_behind h1 hs h hr).cases with rfl | ⟨w, h2, _⟩
    · rw [hr] at hr'; injection hr'
    · rw [hr'] at h2; cases h2
theorem EndsIn.same {r r' : PFound} (h : EndsIn S o ch r) (h' : EndsIn S o ch r') : r = r' := by
  rcases h with h | ⟨x, y, h1, h2, h3⟩
  · rcases h' with h' | ⟨x', y', h1', _, _⟩
    · rw [h] at h'; injection h'
    · rw [h] at h1'; cases h1'
  · rcases h' with h' | ⟨x', y', h1', h2', h3'⟩
    · rw [h1] at h'; cases h'
    · rw [h1] at h1'; injection h1' with h1'; subst h1'; exact stp_end h2 h3 h2' h3'
/-- The moves along a way, the last one ahead. -/
def Chn (S : Sys) : List Frm → List PMove → Prop
  | [], p => p = []
  | [f], p => p = [] ∧ f.s = S.beg
  | f :: g :: r, p => ∃ m q, p = m :: q ∧ m ∈ S.next g.s ∧ m.bad = 0 ∧ m.dst = f.s ∧ Chn S (g :: r) q
theorem Chn.len : ∀ {w : List Frm} {p : List PMove}, Chn S w p → p.length = w.length - 1
  | [], p, h => by rw [h]; rfl
  | [f], p, h => by rw [h.1]; rfl
  | f :: g :: r, p, ⟨m, q, h1, _, _, _, h2⟩ => by
    have := h2.len
    rw [h1, List.length_cons, this]
    simp
theorem Chn.walk : ∀ {w : List Frm} {p : List PMove} {f : Frm} {r : List Frm}, Chn S w p → w = f :: r → Walk S S.beg p.reverse f.s
  | [], p, f, r, h, e => by cases e
  | [g], p, f, r, h, e => by
    injection e with e _
    subst e
    rw [h.1, h.2]
    exact .nil _
  | f' :: g :: r', p, f, r, ⟨m, q, h1, h2, h3, h4, h5⟩, e => by
    injection e with e _
    subst e
    rw [h1, List.reverse_cons, ← h4]
    exact .snoc (h5.walk rfl) h2 h3
theorem Chn.tail {f : Frm} {r : List Frm} {p : List PMove} (h : Chn S (f :: r) p) : Chn S r p.tail := by
  cases r with
  | nil => rw [h.1]; rfl
  | cons g r =>
    obtain ⟨m, q, h1, _, _, _, h2⟩ := h
    rw [h1]
    exact h2
theorem Chn.bump {f f' : Frm} {r : List Frm} {p : List PMove} (h : Chn S (f :: r) p) (e : f'.s = f.s) : Chn S (f' :: r) p := by
  cases r with
  | nil => exact ⟨h.1, e.trans h.2⟩
  | cons g r =>
    obtain ⟨m, q, h1, h2, h3, h4, h5⟩ := h
    exact ⟨m, q, h1, h2, h3, h4.trans e.symm, h5⟩
theorem Chn.push {f g : Frm} {r : List Frm} {p : List PMove} {m : PMove} (h : Chn S (g :: r) p) (hm : m ∈ S.next g.s) (hb : m.bad = 0) (he : m.dst = f.s) : Chn S (f :: g :: r) (m :: p) := ⟨m, p, rfl, hm, hb, he, h⟩
theorem Walk.rch {s e : ByteArray} {p : List PMove} (h : Walk S s p e) (hs : Rch S s) : Rch S e := by
  induction h with
  | nil => exact hs
  | snoc _ hm hb ih => exact .step ih hm hb

/-- Of which moves are followed: some of the state's, none only if it has none. -/
structure ChOk (S : Sys) (ch : List ByteArray → ByteArray → List PMove) : Prop where
  sub : ∀ on s, ∀ m ∈ ch on s, m ∈ S.next s
  none_ : ∀ on s, ch on s = [] → S.next s = []
  len : ∀ on s, (ch on s).length ≤ (S.next s).length
/-- What holds all the time. -/
structure Inv (S : Sys) (o : POpt) (x : Sr) : Prop where
  nd : x.sts.Nodup
  rch : ∀ s ∈ x.sts, Rch S s
  beg : x.sts.head? = some S.beg
  cll : x.cl.length = x.sts.length
  sub : ∀ (n : Nat) (s : ByteArray) (l : List PMove), x.sts[n]? = some s → x.cl[n]? = some l → (∀ m ∈ l, m ∈ S.next s) ∧ (l = [] → S.next s = []) ∧ l.length ≤ (S.next s).length
  frm : ∀ f ∈ x.way, x.sts[f.n]? = some f.s ∧ x.cl[f.n]? = some f.l ∧ f.k ≤ f.l.length
  wnd : (x.way.map (·.n)).Nodup
  chn : Chn S x.way x.path.reverse
  lim : x.limit = 0 ∨ (x.limit = 103 ∧ o.depth < x.sts.length)
  mv : x.moves = (x.cl.map List.length).sum
  deep : x.deep < x.sts.length
  part : x.limit = 0 → ∀ f ∈ x.way, ∀ j : Nat, j < f.k → ∀ m : PMove, f.l[j]? = some m → m.bad = 0 ∧ m.dst ∈ x.sts
  done : x.limit = 0 → ∀ (n : Nat) (s : ByteArray) (l : List PMove), x.sts[n]? = some s → x.cl[n]? = some l → n ∉ x.way.map (·.n) → ∀ m ∈ l, m.bad = 0 ∧ m.dst ∈ x.sts
  ends : o.ends = true → ∀ (n : Nat) (s : ByteArray), x.sts[n]? = some s → S.next s = [] → (S.look s).fin = true
  dep : (x.path.length : Int) ≤ o.depth
/-- What is told. -/
def FoundOk (S : Sys) (o : POpt) (r : PFound) : Prop :=
  (r.verdict = 2 ∧ (r.path.length : Int) ≤ o.depth ∧ ((r.why = 101 ∧ o.ends = true ∧ ∃ e, Walk S S.beg r.path e ∧ S.next e = [] ∧ (S.look e).fin = false) ∨ ∃ p m e, r.path = p ++ [m] ∧ Walk S S.beg p e ∧ m ∈ S.next e ∧ m.bad ≠ 0 ∧ r.why = m.bad)) ∨
  (r.verdict = 1 ∧ r.why = 0 ∧ r.path = [] ∧ ∃ x, Inv S o x ∧ x.way = [] ∧ x.limit = 0 ∧ r.states = x.sts.length ∧ r.moves = x.moves ∧ r.deep = x.deep) ∨
  (r.verdict = 3 ∧ r.path = [] ∧ ∃ L : List ByteArray, L.Nodup ∧ (∀ s ∈ L, Rch S s) ∧ ((r.why = 104 ∧ o.states < L.length) ∨ (r.why = 105 ∧ o.bytes < totB L) ∨ (r.why = 103 ∧ o.depth < L.length)))
theorem Inv.way_le {x : Sr} (h : Inv S o x) : x.way.length ≤ x.sts.length := by
  have := nodup_bound x.sts.length (x.way.map (·.n)) h.wnd (fun n hn => by
    obtain ⟨f, hf, rfl⟩ := List.mem_map.1 hn
    exact (List.getElem?_eq_some_iff.1 (h.frm f hf).1).1)
  simpa using this
theorem Inv.path_len {x : Sr} (h : Inv S o x) : x.path.length = x.way.length - 1 := by
  have := h.chn.len
  simpa using this
theorem Inv.pos {x : Sr} (h : Inv S o x) : 0 < x.sts.length := by
  have := h.beg
  cases hs : x.sts with
  | nil => rw [hs] at this; cases this
  | cons a l => simp
theorem get_app {A : Type} {l : List A} {a b : A} {n : Nat} (h : (l ++ [a])[n]? = some b) : (n < l.length ∧ l[n]? = some b) ∨ (n = l.length ∧ b = a) := by
  by_cases hn : n < l.length
  · rw [List.getElem?_append_left hn] at h
    exact .inl ⟨hn, h⟩
  · rw [List.getElem?_append_right (by omega)] at h
    by_cases h0 : n - l.length = 0
    · rw [h0] at h
      injection h with h
      exact .inr ⟨by omega, h.symm⟩
    · rw [List.getElem?_eq_none (by simp; omega)] at h
      cases h
theorem get_app_l {A : Type} {l : List A} {a b : A} {n : Nat} (h : l[n]? = some b) : (l ++ [a])[n]? = some b := by
  rw [List.getElem?_append_left (List.getElem?_eq_some_iff.1 h).1, h]
theorem Inv.top_mem {x : Sr} (h : Inv S o x) {f : Frm} {r : List Frm} (hw : x.way = f :: r) {m : PMove} (hm : f.l[f.k]? = some m) : m ∈ S.next f.s ∧ f.s ∈ x.sts := by
  obtain ⟨h1, h2, h3⟩ := h.frm f (by rw [hw]; exact List.mem_cons_self)
  exact ⟨(h.sub _ _ _ h1 h2).1 m (List.mem_of_getElem? hm), List.mem_of_getElem? h1⟩
theorem Inv.walk {x : Sr} (h : Inv S o x) {f : Frm} {r : List Frm} (hw : x.way = f :: r) : Walk S S.beg x.path f.s := by
  have := h.chn.walk hw
  rwa [List.reverse_reverse] at this
/-- Where a frame's count turns. -/
theorem Inv.bump {x : Sr} (h : Inv S o x) {f : Frm} {r : List Frm} (hw : x.way = f :: r) {m : PMove} (hm : f.l[f.k]? = some m) (L : Int) (hL : (L = x.limit ∧ (x.limit = 0 → m.bad = 0 ∧ m.dst ∈ x.sts)) ∨ (L = 103 ∧ o.depth < x.sts.length)) : Inv S o { x with way := { f with k := f.k + 1 } :: r, limit := L } := by
  have hL0 : L = 0 → x.limit = 0 ∧ m.bad = 0 ∧ m.dst ∈ x.sts := fun e => by
    rcases hL with ⟨h1, h2⟩ | ⟨h1, _⟩
    · exact ⟨by omega, h2 (by omega)⟩
    · omega
  have hns : ((({ f with k := f.k + 1 } : Frm) :: r).map (·.n)) = x.way.map (·.n) := by rw [hw]; rfl
  have hlt := (List.getElem?_eq_some_iff.1 hm).1
  refine ⟨h.nd, h.rch, h.beg, h.cll, h.sub, fun g hg => ?_, ?_, ?_, ?_, h.mv, h.deep, fun h0 g hg j hj m' hm' => ?_, fun h0 n s l hs hl hn => ?_, h.ends, h.dep⟩
  · rcases List.mem_cons.1 hg with rfl | hg
    · obtain ⟨h1, h2, h3⟩ := h.frm f (by rw [hw]; exact List.mem_cons_self)
      exact ⟨h1, h2, by show f.k + 1 ≤ f.l.length; omega⟩
    · exact h.frm g (by rw [hw]; exact List.mem_cons_of_mem _ hg)
  · show ((({ f with k := f.k + 1 } : Frm) :: r).map (·.n)).Nodup
    rw [hns]; exact h.wnd
  · have h1 := h.chn
    rw [hw] at h1
    exact h1.bump rfl
  · rcases hL with ⟨h1, _⟩ | h1
    · show L = 0 ∨ _
      rw [h1]; exact h.lim
    · exact .inr h1
  · obtain ⟨hz, hb, hd⟩ := hL0 h0
    rcases List.mem_cons.1 hg with rfl | hg
    · by_cases e : j = f.k
      · subst e
        have : f.l[f.k]? = some m' := hm'
        rw [hm] at this
        injection this with this
        subst this
        exact ⟨hb, hd⟩
      · exact h.part hz f (by rw [hw]; exact List.mem_cons_self) j (by have : j < f.k + 1 := hj; omega) m' hm'
    · exact h.part hz g (by rw [hw]; exact List.mem_cons_of_mem _ hg) j hj m' hm'
  · obtain ⟨hz, _, _⟩ := hL0 h0
    refine h.done hz n s l hs hl ?_
    have hn2 : n ∉ ((({ f with k := f.k + 1 } : Frm) :: r).map (·.n)) := hn
    rw [hns] at hn2
    exact hn2
theorem inv_enter (hc : ChOk S ch) {x : Sr} (h : Inv S o x) {f : Frm} {r : List Frm} (hw : x.way = f :: r) {m : PMove} (hm : f.l[f.k]? = some m) (hb : m.bad = 0) (hn : m.dst ∉ x.sts) (hd : (x.path.length : Int) < o.depth) :
    (∀ y, enterP S o ch { x with way := { f with k := f.k + 1 } :: r, path := x.path ++ [m] } m.dst = .inl y → Inv S o y) ∧ ∀ q, enterP S o ch { x with way := { f with k := f.k + 1 } :: r, path := x.path ++ [m] } m.dst = .inr q → FoundOk S o q := by
  obtain ⟨hmn, hfs⟩ := h.top_mem hw hm
  have hfr := h.frm f (by rw [hw]; exact List.mem_cons_self)
  have hlt := (List.getElem?_eq_some_iff.1 hm).1
  have hwl := h.way_le
  have hpl := h.path_len
  have hrd : Rch S m.dst := .step (h.rch _ hfs) hmn hb
  have hns : ((({ f with k := f.k + 1 } : Frm) :: r).map (·.n)) = x.way.map (·.n) := by rw [hw]; rfl
  obtain ⟨l, hl⟩ : ∃ l, ch (m.dst :: (({ f with k := f.k + 1 } : Frm) :: r).map (·.s)) m.dst = l := ⟨_, rfl⟩
  have hsub := hc.sub (m.dst :: (({ f with k := f.k + 1 } : Frm) :: r).map (·.s)) m.dst
  have hnone := hc.none_ (m.dst :: (({ f with k := f.k + 1 } : Frm) :: r).map (·.s)) m.dst
  have hlen := hc.len (m.dst :: (({ f with k := f.k + 1 } : Frm) :: r).map (·.s)) m.dst
  rw [hl] at hsub hnone hlen
  unfold enterP
  simp only [hl]
  by_cases hbad : (o.ends && (l.isEmpty && !(S.look m.dst).fin)) = true
  · rw [if_pos hbad]
    refine ⟨fun y e => (by cases e), fun q e => ?_⟩
    injection e with e
    subst e
    simp only [Bool.and_eq_true, List.isEmpty_iff, Bool.not_eq_true'] at hbad
    refine .inl ⟨rfl, ?_, .inl ⟨rfl, hbad.1, m.dst, .snoc (h.walk hw) hmn hb, hnone hbad.2.1, hbad.2.2⟩⟩
    show (((x.path ++ [m]).length : Nat) : Int) ≤ o.depth
    rw [List.length_append]
    simp only [List.length_cons, List.length_nil]
    omega
  · rw [if_neg hbad]
    refine ⟨fun y e => ?_, fun q e => (by cases e)⟩
    injection e with e
    subst e
    have hwpos : 0 < x.way.length := by rw [hw]; simp
    refine ⟨?_, fun s hs => ?_, ?_, ?_, fun n s l' hs hl' => ?_, fun g hg => ?_, ?_, ?_, ?_, ?_, ?_, fun h0 g hg j hj m' hm' => ?_, fun h0 n s l' hs hl' hn' => ?_, fun he n s hs h0 => ?_, ?_⟩
    · show (x.sts ++ [m.dst]).Nodup
      rw [List.nodup_append]
      refine ⟨h.nd, by simp, fun a ha b hb' => ?_⟩
      rw [List.mem_singleton] at hb'
      subst hb'
      rintro rfl
      exact hn ha
    · rcases List.mem_append.1 hs with hs | hs
      · exact h.rch s hs
      · rw [List.mem_singleton] at hs; subst hs; exact hrd
    · show (x.sts ++ [m.dst]).head? = _
      have := h.beg
      cases hst : x.sts with
      | nil => rw [hst] at this; cases this
      | cons a t => rw [hst] at this; exact this
    · show (x.cl ++ [l]).length = (x.sts ++ [m.dst]).length
      simp [h.cll]
    · have hs : (x.sts ++ [m.dst])[n]? = some s := hs
      have hl' : (x.cl ++ [l])[n]? = some l' := hl'
      rcases get_app hs with ⟨h1, h2⟩ | ⟨h1, rfl⟩
      · rcases get_app hl' with ⟨_, h3⟩ | ⟨h3, _⟩
        · exact h.sub n s l' h2 h3
        · have := h.cll; omega
      · rcases get_app hl' with ⟨h3, _⟩ | ⟨_, rfl⟩
        · have := h.cll; omega
        · exact ⟨hsub, hnone, hlen⟩
    · rcases List.mem_cons.1 hg with rfl | hg
      · refine ⟨by show (x.sts ++ [m.dst])[x.sts.length]? = _; simp, by show (x.cl ++ [l])[x.sts.length]? = _; rw [← h.cll]; simp, Nat.zero_le _⟩
      · rcases List.mem_cons.1 hg with rfl | hg
        · exact ⟨get_app_l hfr.1, get_app_l hfr.2.1, by show f.k + 1 ≤ f.l.length; omega⟩
        · have h1 := h.frm g (by rw [hw]; exact List.mem_cons_of_mem _ hg)
          exact ⟨get_app_l h1.1, get_app_l h1.2.1, h1.2.2⟩
    · show (x.sts.length :: ((({ f with k := f.k + 1 } : Frm) :: r).map (·.n))).Nodup
      rw [hns, List.nodup_cons]
      refine ⟨fun hin => ?_, h.wnd⟩
      obtain ⟨g, hg, e⟩ := List.mem_map.1 hin
      have := (List.getElem?_eq_some_iff.1 (h.frm g hg).1).1
      omega
    · have h1 := h.chn
      rw [hw] at h1
      have h2 := h1.bump (f' := { f with k := f.k + 1 }) rfl
      show Chn S _ (x.path ++ [m]).reverse
      rw [List.reverse_append]
      exact h2.push hmn hb rfl
    · rcases h.lim with h1 | ⟨h1, h2⟩
      · exact .inl h1
      · refine .inr ⟨h1, ?_⟩
        show o.depth < ((x.sts ++ [m.dst]).length : Nat)
        rw [List.length_append]
        simp only [List.length_cons, List.length_nil]
        omega
    · show x.moves + l.length = ((x.cl ++ [l]).map List.length).sum
      rw [h.mv]
      simp
    · show max x.deep (x.path ++ [m]).length < (x.sts ++ [m.dst]).length
      have := h.deep
      simp only [List.length_append, List.length_cons, List.length_nil]
      omega
    · rcases List.mem_cons.1 hg with rfl | hg
      · exact absurd hj (Nat.not_lt_zero _)
      · rcases List.mem_cons.1 hg with rfl | hg
        · by_cases e : j = f.k
          · subst e
            have : f.l[f.k]? = some m' := hm'
            rw [hm] at this
            injection this with this
            subst this
            exact ⟨hb, List.mem_append_right _ List.mem_cons_self⟩
          · have h1 := h.part h0 f (by rw [hw]; exact List.mem_cons_self) j (by have : j < f.k + 1 := hj; omega) m' hm'
            exact ⟨h1.1, List.mem_append_left _ h1.2⟩
        · have h1 := h.part h0 g (by rw [hw]; exact List.mem_cons_of_mem _ hg) j hj m' hm'
          exact ⟨h1.1, List.mem_append_left _ h1.2⟩
    · have hs : (x.sts ++ [m.dst])[n]? = some s := hs
      have hl' : (x.cl ++ [l])[n]? = some l' := hl'
      have hn2 : n ∉ x.sts.length :: ((({ f with k := f.k + 1 } : Frm) :: r).map (·.n)) := hn'
      rw [hns, List.mem_cons, not_or] at hn2
      rcases get_app hs with ⟨h1, h2⟩ | ⟨h1, _⟩
      · rcases get_app hl' with ⟨_, h3⟩ | ⟨h3, _⟩
        · intro m' hm'
          have h4 := h.done h0 n s l' h2 h3 hn2.2 m' hm'
          exact ⟨h4.1, List.mem_append_left _ h4.2⟩
        · have := h.cll; omega
      · exact absurd h1 hn2.1
    · have hs : (x.sts ++ [m.dst])[n]? = some s := hs
      rcases get_app hs with ⟨h1, h2⟩ | ⟨h1, rfl⟩
      · exact h.ends he n s h2 h0
      · have hl0 : l = [] := by
          rw [h0] at hlen
          exact List.length_eq_zero_iff.1 (Nat.le_zero.1 hlen)
        rw [he, hl0] at hbad
        simpa using hbad
    · show (((x.path ++ [m]).length : Nat) : Int) ≤ o.depth
      rw [List.length_append]
      simp only [List.length_cons, List.length_nil]
      omega
theorem inv_step (hc : ChOk S ch) {x : Sr} (h : Inv S o x) : (∀ y, stepP S o ch x = .inl y → Inv S o y) ∧ ∀ q, stepP S o ch x = .inr q → FoundOk S o q := by
  unfold stepP
  cases hw : x.way with
  | nil =>
    refine ⟨fun y e => (by cases e), fun q e => ?_⟩
    injection e with e
    subst e
    unfold ended
    rcases h.lim with h0 | ⟨h0, h1⟩
    · rw [if_pos h0]
      exact .inr (.inl ⟨rfl, rfl, rfl, x, h, hw, h0, rfl, rfl, rfl⟩)
    · rw [if_neg (by omega)]
      exact .inr (.inr ⟨rfl, rfl, x.sts, h.nd, h.rch, .inr (.inr ⟨h0, h1⟩)⟩)
  | cons f r =>
    have hfr := h.frm f (by rw [hw]; exact List.mem_cons_self)
    dsimp only
    cases hm : f.l[f.k]? with
    | none =>
      refine ⟨fun y e => ?_, fun q e => (by cases e)⟩
      injection e with e
      subst e
      have hk : f.l.length ≤ f.k := List.getElem?_eq_none_iff.1 hm
      have hwn := h.wnd
      rw [hw, List.map_cons, List.nodup_cons] at hwn
      refine ⟨h.nd, h.rch, h.beg, h.cll, h.sub, fun g hg => h.frm g (by rw [hw]; exact List.mem_cons_of_mem _ hg), hwn.2, ?_, h.lim, h.mv, h.deep, fun h0 g hg => h.part h0 g (by rw [hw]; exact List.mem_cons_of_mem _ hg), fun h0 n s l hs hl hn => ?_, h.ends, ?_⟩
      · have h1 := h.chn
        rw [hw] at h1
        have h2 := h1.tail
        rw [List.tail_reverse] at h2
        exact h2
      · by_cases e : n = f.n
        · subst e
          have hl2 : x.cl[f.n]? = some l := hl
          rw [hfr.2.1] at hl2
          injection hl2 with hl2
          subst hl2
          intro m' hm'
          obtain ⟨j, hj⟩ := List.getElem?_of_mem hm'
          exact h.part h0 f (by rw [hw]; exact List.mem_cons_self) j (by have := (List.getElem?_eq_some_iff.1 hj).1; omega) m' hj
        · refine h.done h0 n s l hs hl ?_
          rw [hw, List.map_cons, List.mem_cons, not_or]
          exact ⟨e, hn⟩
      · show ((x.path.dropLast.length : Nat) : Int) ≤ o.depth
        have := h.dep
        rw [List.length_dropLast]
        omega
    | some m =>
      dsimp only
      by_cases hd : o.depth ≤ x.path.length
      · rw [if_pos hd]
        refine ⟨fun y e => ?_, fun q e => (by cases e)⟩
        injection e with e
        subst e
        refine h.bump hw hm 103 (.inr ⟨rfl, ?_⟩)
        have h1 := h.way_le
        have h2 := h.path_len
        have h3 : 0 < x.way.length := by rw [hw]; simp
        omega
      · rw [if_neg hd]
        obtain ⟨hmn, hfs⟩ := h.top_mem hw hm
        by_cases hb : m.bad ≠ 0
        · rw [if_pos hb]
          refine ⟨fun y e => (by cases e), fun q e => ?_⟩
          injection e with e
          subst e
          refine .inl ⟨rfl, ?_, .inr ⟨x.path, m, f.s, rfl, h.walk hw, hmn, hb, rfl⟩⟩
          show (((x.path ++ [m]).length : Nat) : Int) ≤ o.depth
          rw [List.length_append]
          simp only [List.length_cons, List.length_nil]
          omega
        · rw [if_neg hb]
          have hb : m.bad = 0 := by simpa using hb
          by_cases hin : m.dst ∈ x.sts
          · have e : putP o x.sts m.dst = .old := by unfold putP; rw [if_pos hin]
            rw [e]
            refine ⟨fun y e => ?_, fun q e => (by cases e)⟩
            injection e with e
            subst e
            exact h.bump hw hm x.limit (.inl ⟨rfl, fun _ => ⟨hb, hin⟩⟩)
          · have hL : (x.sts ++ [m.dst]).Nodup := by
              rw [List.nodup_append]
              refine ⟨h.nd, by simp, fun a ha b hb' => ?_⟩
              rw [List.mem_singleton] at hb'
              subst hb'
              rintro rfl
              exact hin ha
            have hR : ∀ s ∈ x.sts ++ [m.dst], Rch S s := fun s hs => by
              rcases List.mem_append.1 hs with hs | hs
              · exact h.rch s hs
              · rw [List.mem_singleton] at hs; subst hs; exact .step (h.rch _ hfs) hmn hb
            by_cases h1 : o.states ≤ x.sts.length
            · have e : putP o x.sts m.dst = .full 104 := by unfold putP; rw [if_neg hin, if_pos h1]
              rw [e]
              refine ⟨fun y e => (by cases e), fun q e => ?_⟩
              injection e with e
              subst e
              refine .inr (.inr ⟨rfl, rfl, x.sts ++ [m.dst], hL, hR, .inl ⟨rfl, ?_⟩⟩)
              rw [List.length_append]
              simp only [List.length_cons, List.length_nil]
              omega
            · by_cases h2 : o.bytes - totB x.sts < m.dst.size
              · have e : putP o x.sts m.dst = .full 105 := by unfold putP; rw [if_neg hin, if_neg h1, if_pos h2]
                rw [e]
                refine ⟨fun y e => (by cases e), fun q e => ?_⟩
                injection e with e
                subst e
                refine .inr (.inr ⟨rfl, rfl, x.sts ++ [m.dst], hL, hR, .inr (.inl ⟨rfl, ?_⟩)⟩)
                unfold totB at h2 ⊢
                simp only [List.map_append, List.sum_append, List.map_cons, List.map_nil, List.sum_cons, List.sum_nil]
                omega
              · have e : putP o x.sts m.dst = .new := by unfold putP; rw [if_neg hin, if_neg h1, if_neg h2]
                rw [e]
                exact inv_enter hc h hw hm hb hin (by omega)
theorem inv_start (hc : ChOk S ch) (hs : 1 ≤ o.states) (hd : 0 ≤ o.depth) : (∀ y, startP S o ch = .inl y → Inv S o y) ∧ ∀ q, startP S o ch = .inr q → FoundOk S o q := by
  unfold startP
  by_cases h2 : o.bytes - totB [] < S.beg.size
  · have e : putP o [] S.beg = .full 105 := by unfold putP; rw [if_neg (by simp), if_neg (by simp; omega), if_pos h2]
    rw [e]
    refine ⟨fun y e => (by cases e), fun q e => ?_⟩
    injection e with e
    subst e
    refine .inr (.inr ⟨rfl, rfl, [S.beg], by simp, fun s hs => ?_, .inr (.inl ⟨rfl, ?_⟩)⟩)
    · rw [List.mem_singleton] at hs; subst hs; exact .beg
    · unfold totB at h2 ⊢
      simp at h2 ⊢
      omega
  · have e : putP o [] S.beg = .new := by unfold putP; rw [if_neg (by simp), if_neg (by simp; omega), if_neg h2]
    rw [e]
    obtain ⟨l, hl⟩ : ∃ l, ch [S.beg] S.beg = l := ⟨_, rfl⟩
    have hsub := hc.sub [S.beg] S.beg
    have hnone := hc.none_ [S.beg] S.beg
    have hlen := hc.len [S.beg] S.beg
    rw [hl] at hsub hnone hlen
    unfold enterP
    simp only [List.map_nil, hl]
    by_cases hbad : (o.ends && (l.isEmpty && !(S.look S.beg).fin)) = true
    · rw [if_pos hbad]
      refine ⟨fun y e => (by cases e), fun q e => ?_⟩
      injection e with e
      subst e
      simp only [Bool.and_eq_true, List.isEmpty_iff, Bool.not_eq_true'] at hbad
      exact .inl ⟨rfl, hd, .inl ⟨rfl, hbad.1, S.beg, .nil _, hnone hbad.2.1, hbad.2.2⟩⟩
    · rw [if_neg hbad]
      refine ⟨fun y e => ?_, fun q e => (by cases e)⟩
      injection e with e
      subst e
      have g0 : ∀ {A : Type} {a b : A} {n : Nat}, ([] ++ [a] : List A)[n]? = some b → n = 0 ∧ b = a := fun {A a b n} h => by
        rcases get_app h with ⟨h1, _⟩ | h1
        · exact absurd h1 (Nat.not_lt_zero _)
        · exact h1
      refine ⟨by simp, fun s hs => ?_, rfl, rfl, fun n s l' hs hl' => ?_, fun g hg => ?_, by simp, ⟨rfl, rfl⟩, .inl rfl, by simp, by simp, fun h0 g hg j hj => ?_, fun h0 n s l' hs hl' hn' => ?_, fun he n s hs h0 => ?_, hd⟩
      · have hs : s ∈ [S.beg] := hs
        rw [List.mem_singleton] at hs; subst hs; exact .beg
      · obtain ⟨_, rfl⟩ := g0 hs
        obtain ⟨_, rfl⟩ := g0 hl'
        exact ⟨hsub, hnone, hlen⟩
      · rw [List.mem_singleton] at hg
        subst hg
        exact ⟨rfl, rfl, Nat.zero_le _⟩
      · rw [List.mem_singleton] at hg
        subst hg
        exact absurd hj (Nat.not_lt_zero _)
      · obtain ⟨rfl, _⟩ := g0 hs
        exact absurd List.mem_cons_self hn'
      · obtain ⟨_, rfl⟩ := g0 hs
        have hl0 : l = [] := by
          rw [h0] at hlen
          exact List.length_eq_zero_iff.1 (Nat.le_zero.1 hlen)
        rw [he, hl0] at hbad
        simpa using hbad
theorem Stp.inv (hc : ChOk S ch) {x y : Sr} (h : Stp S o ch x y) (hi : Inv S o x) : Inv S o y := by
  induction h with
  | refl => exact hi
  | tail _ hs ih => exact (inv_step hc ih).1 _ hs
theorem EndsIn.ok (hc : ChOk S ch) (hs : 1 ≤ o.states) (hd : 0 ≤ o.depth) {r : PFound} (h : EndsIn S o ch r) : FoundOk S o r := by
  rcases h with h | ⟨x, y, h1, h2, h3⟩
  · exact (inv_start hc hs hd).2 r h
  · exact (inv_step hc (h2.inv hc ((inv_start hc hs hd).1 x h1))).2 r h3
end
def allP (S : Sys) : List ByteArray → ByteArray → List PMove := fun _ s => S.next s
theorem allP_ok (S : Sys) : ChOk S (allP S) := ⟨fun _ _ _ h => h, fun _ _ h => h, fun _ _ => Nat.le_refl _⟩
/-- So many states are reached, at most. -/
def FewS (S : Sys) (M : Nat) : Prop := ∀ l : List ByteArray, l.Nodup → (∀ s ∈ l, Rch S s) → l.length ≤ M
end Go.Proofs.Ytpednhcfkjjcpaa.G
