/- The walk of sextantlaw19.all: the states that come, with their numbers, are those that are wanted. -/
import Derived.Test.YtgacglmbhfppgaaIter
import Derived.Test.YtgacglmbhfppgaaRef
namespace Go.Proofs.Ytgacglmbhfppgaa
open Go.RowKit Go.Shelf
attribute [local go_sem] Oper.semAt_some

/-- What lies in the boxes of all's variables: the wanted states, the early number, the result, k. -/
structure Boxes (W : World) (b : Nat) (v : Value) (early : Int) (res : Bool) (k : Int) : Prop where
  want : Holds W b 27 [v]
  early : Holds W (b + 1) 3 [.int .i64 early]
  res : Holds W (b + 1 + 1) 4 [.bool res]
  k : Holds W (b + 1 + 1 + 1) 3 [.int .i64 k]

theorem Boxes.kept_row {w w' : World} {b : Nat} {v : Value} {early : Int} {res : Bool} {k : Int} {row : Option Nat} (h : Boxes w b v early res k) (hg : w.grownBy w' row) (hr : ∀ r, row = some r → ∃ o : Obj, w.heap[r]? = some o ∧ o.isCells = false) : Boxes w' b v early res k :=
  ⟨h.want.kept_row hg hr, h.early.kept_row hg hr, h.res.kept_row hg hr, h.k.kept_row hg hr⟩

def GoodPre (L : List ByteArray) (pre : List (Nat × ByteArray)) : Prop := pre = enumTo L pre.length

theorem good_snoc {L : List ByteArray} {pre : List (Nat × ByteArray)} {x : Nat × ByteArray} : GoodPre L (pre ++ [x]) ↔ GoodPre L pre ∧ x = (pre.length, L.getD pre.length ByteArray.empty) := by
  unfold GoodPre
  rw [List.length_append, show pre.length + [x].length = pre.length + 1 from rfl, enumTo_succ]
  constructor
  · intro h
    have h1 := List.append_inj h (by rw [enumTo_length])
    exact ⟨h1.1, by simpa using h1.2⟩
  · rintro ⟨h1, h2⟩
    rw [← h1, h2]

theorem Boxes.step {W : World} {b : Nat} {v : Value} {early : Int} {res : Bool} {k : Int} (h : Boxes W b v early res k) (j : Int) : Boxes (W.setCell ⟨b + 1 + 1 + 1, 0, none⟩ (.int .i64 j)) b v early res j :=
  ⟨h.want.far (by intro e; have : b = b + 1 + 1 + 1 := e; omega) _, h.early.far (by intro e; have : b + 1 = b + 1 + 1 + 1 := e; omega) _, h.res.far (by intro e; have : b + 1 + 1 = b + 1 + 1 + 1 := e; omega) _, h.k.put 0 _⟩

theorem KpBox.set {n₀ Bs S : Nat} (W : World) {p : Addr} (hp : n₀ ≤ p.block) (hne : Bs ≠ p.block) (u : Value) : KpBox n₀ Bs S W (W.setCell p u) := ⟨(Below.refl n₀ W).setCell hp u, fun h => h.far hne u⟩

set_option maxRecDepth 100000 in
set_option maxHeartbeats 1000000 in
theorem all_any (w : World) (B B' S : Nat) (L : List ByteArray) (st rm : Int) (F : Nat → Prop) (hS : StoreAt w B S L st rm F) (hl : L.length ≤ 1000000) (a : Option Addr) (cap : Nat) (hrow : w.ownsRow B' 9 1 (.slice a L.length cap) L.length (L.map Value.string)) (early : Int) :
    Calls Try.prog 20 #[.pointer (some ⟨S, 0, none⟩), .slice a L.length cap, .int .i64 early] w fun e w' => e = .returned (.bool true) ∧ Below w.heap.size w w' := by
  refine (callsIn_wide (n := 5)).1 ?_
  refine callsIn_of_wp_marks Try.func20 rfl trivial ?_ rfl
  simp only [Try.ntmps20, List.size_toArray, List.length_cons, List.length_nil, Nat.reduceAdd, Nat.reduceSub, Array.replicate_succ, Array.replicate_zero, List.push_toArray, List.append_toArray, List.nil_append, List.cons_append]
  gi_wp2_with (refine ⟨trivial, ?_⟩; gi_at_call 21; refine (callsIn_wide.2 (all_fn _ _)).mono ?_; rintro e w' ⟨rfl, rfl⟩)
  obtain ⟨W1, hW1⟩ : ∃ W1, ((((w.alloc (.cells #[.slice a L.length cap] 27)).alloc (.cells #[.int .i64 early] 3)).alloc (.cells #[.bool false] 4)).alloc (.cells #[.int .i64 0] 3)).alloc (.cells #[.pointer (some ⟨S, 0, none⟩)] 24) = W1 := ⟨_, rfl⟩
  have hbx : Boxes W1 w.heap.size (.slice a L.length cap) early false 0 := by
    subst hW1
    have h0 := Holds.new w 27 #[.slice a L.length cap]
    have h1 := Holds.new (w.alloc (.cells #[.slice a L.length cap] 27)) 3 #[.int .i64 early]
    have h2 := Holds.new ((w.alloc (.cells #[.slice a L.length cap] 27)).alloc (.cells #[.int .i64 early] 3)) 4 #[.bool false]
    have h3 := Holds.new (((w.alloc (.cells #[.slice a L.length cap] 27)).alloc (.cells #[.int .i64 early] 3)).alloc (.cells #[.bool false] 4)) 3 #[.int .i64 0]
    simp only [World.size_alloc] at h1 h2 h3
    exact ⟨(((h0.alloc _).alloc _).alloc _).alloc _, ((h1.alloc _).alloc _).alloc _, (h2.alloc _).alloc _, h3.alloc _⟩
  have hbs : Holds W1 (w.heap.size + 1 + 1 + 1 + 1) 24 [.pointer (some ⟨S, 0, none⟩)] := by
    subst hW1
    have h4 := Holds.new ((((w.alloc (.cells #[.slice a L.length cap] 27)).alloc (.cells #[.int .i64 early] 3)).alloc (.cells #[.bool false] 4)).alloc (.cells #[.int .i64 0] 3)) 24 #[.pointer (some ⟨S, 0, none⟩)]
    simpa only [World.size_alloc] using h4
  have hB1 : Below w.heap.size w W1 := by
    subst hW1
    exact (((((Below.refl _ w).alloc (Nat.le_refl _) _).alloc (by simp) _).alloc (by simp; omega) _).alloc (by simp; omega) _).alloc (by simp; omega) _
  rw [hW1]
  clear hW1
  have hz := hbs.lt
  gi_wp2_with fail
  refine wpIn_rangeFunc_ownH rfl (by omega) (gf := 25) (lb := #[.pointer (some ⟨w.heap.size + 1 + 1 + 1 + 1, 0, none⟩)]) rfl trivial (enters_of Try.func25 (by kernel_rfl) rfl)
    (all_stops 4 _ w.heap.size B S L st rm F W1 (hS.below hB1) hl (fun k hk => (hS.lt k hk).2) (by omega) hbs) KpBox.trans (KpBox.book (by omega)) (Below.refl _ _) (fun _ => rfl)
    (fun pre W => ((GoodPre L pre ∧ pre.length ≤ L.length) ∧ Boxes W w.heap.size (.slice a L.length cap) early false pre.length) ∧ Below w.heap.size w W)
    (fun c pre W => ((c = .ret ∧ ¬ GoodPre L pre) ∨ (c = .exit 0 ∧ Boxes W w.heap.size (.slice a L.length cap) early false pre.length)) ∧ Below w.heap.size w W)
    (OwnFrom.and (Own.from (fun s A B row hs hg hr => ⟨hs.1, hs.2.kept_row hg hr⟩) _) (ownFrom_below (Nat.le_refl _) (by omega)))
    (fun c => OwnFrom.and (Own.from (fun s A B row hs hg hr => hs.imp id fun h => ⟨h.1, h.2.kept_row hg hr⟩) _) (ownFrom_below (Nat.le_refl _) (by omega)))
    ⟨⟨⟨rfl, Nat.zero_le _⟩, hbx⟩, hB1⟩ (fun x a' W => a' = { tmps := #[.pointer (some ⟨S, 0, none⟩), .slice a L.length cap, .int .i64 early, undef, .pointer (some ⟨w.heap.size, 0, none⟩), .pointer (some ⟨w.heap.size + 1, 0, none⟩), .pointer (some ⟨w.heap.size + 1 + 1, 0, none⟩), .pointer (some ⟨w.heap.size + 1 + 1 + 1, 0, none⟩), .int .i64 (x.1 : Int), .string x.2, undef, undef, .pointer (some ⟨S, 0, none⟩), .func (.func 25) #[] #[.pointer (some ⟨w.heap.size + 1 + 1 + 1 + 1, 0, none⟩)], .int .i64 (x.1 : Int), .string x.2, undef, undef, undef, undef, undef, undef, undef, undef, undef, undef, undef, undef, undef, undef, undef, undef, undef, undef, undef, undef, undef, undef, undef, undef, undef, undef, undef, undef, undef, undef, undef, undef, undef, undef, undef, undef, undef, undef, undef, undef, undef, undef, undef, undef, undef, undef, undef, undef, undef], defers := [] }) (fun x a' s A B row hs _ _ => hs) ?assign ?body ?done ?stop
  case assign =>
    intro l pre x W K hi hK
    dsimp only [encs]
    gi_wp2
    exact hK _ _ (KeepsFrom.refl _ _) (KpBox.refl _ _ _ _) hi rfl
  case body =>
    rintro l pre x a' W hlt hrec ⟨⟨⟨hgp, hpl⟩, hx⟩, hB⟩ rfl hlen
    have c0 := box_cell hx.want
    have c1 := box_cell hx.early
    have c2 := box_cell hx.res
    have c3 := box_cell hx.k
    have z2 := hx.res.free 0
    have z3 := hx.k.free 0
    obtain ⟨g, rfl, hg, hgc, hc⟩ := row_cell hrow hlen
    have hc' := (hB.cell (p := ⟨g, pre.length, none⟩) hg).trans hc
    have hgd : L.getD pre.length ByteArray.empty = L[pre.length] := by rw [List.getD_eq_getElem?_getD, List.getElem?_eq_getElem hlen]; rfl
    have HG := Lib.hid hgd
    clear hgd
    by_cases hx1 : x.1 = pre.length
    · by_cases hx2 : x.2 = L[pre.length]
      · have HP : Hid (GoodPre L (pre ++ [x])) := good_snoc.2 ⟨hgp, by rw [HG.out]; exact Prod.ext hx1 hx2⟩
        have hq := hx.step (pre.length + 1 : Int)
        gi_wp2
        · exact ⟨(KeepsOthers.setCell _ _ _).from _, ⟨.inr ⟨rfl, by rw [List.length_append]; exact hq⟩, hB.setCell (p := ⟨w.heap.size + 1 + 1 + 1, 0, none⟩) (by show w.heap.size ≤ w.heap.size + 1 + 1 + 1; omega) _⟩⟩
        · exact ⟨(KeepsOthers.setCell _ _ _).from _, KpBox.set _ (by show w.heap.size ≤ w.heap.size + 1 + 1 + 1; omega) (by simp) _, ⟨⟨⟨HP.out, by simp; omega⟩, by rw [List.length_append]; exact hq⟩, hB.setCell (p := ⟨w.heap.size + 1 + 1 + 1, 0, none⟩) (by show w.heap.size ≤ w.heap.size + 1 + 1 + 1; omega) _⟩⟩
      · have HP : Hid (¬ GoodPre L (pre ++ [x])) := fun h => hx2 (by have := (good_snoc.1 h).2; rw [this]; exact HG.out)
        have hb : (x.2.toList == L[pre.length].toList) = false := by rw [Bool.eq_false_iff]; exact fun e => hx2 (bytes_eq e)
        clear hx2
        gi_wp2
        exact ⟨(KeepsOthers.setCell _ _ _).from _, ⟨.inl ⟨rfl, HP.out⟩, hB.setCell (p := ⟨w.heap.size + 1 + 1, 0, none⟩) (by show w.heap.size ≤ w.heap.size + 1 + 1; omega) _⟩⟩
    · have HP : Hid (¬ GoodPre L (pre ++ [x])) := fun h => hx1 (by have := (good_snoc.1 h).2; rw [this])
      have hb : ((x.1 : Int) == (pre.length : Int)) = false := by simp; omega
      have hb' : (x.1 == pre.length) = false := by simpa using hx1
      have hb2 : ((x.1 : Int) != (pre.length : Int)) = true := by simp; omega
      have hb3 : (x.1 != pre.length) = true := by simpa using hx1
      clear hx1
      gi_wp2
      exact ⟨(KeepsOthers.setCell _ _ _).from _, ⟨.inl ⟨rfl, HP.out⟩, hB.setCell (p := ⟨w.heap.size + 1 + 1, 0, none⟩) (by show w.heap.size ≤ w.heap.size + 1 + 1; omega) _⟩⟩
  case' stop =>
    rintro D c pre W hD ⟨kx, hk, hpre⟩ hh hK
    obtain ⟨hh, hB⟩ := hh
    have hx : c = .exit 0 ∧ Boxes W w.heap.size (.slice a L.length cap) early false pre.length := hh.resolve_left fun h => h.2 (by unfold GoodPre; rw [hpre, enumTo_length])
    obtain ⟨rfl, hx⟩ := hx
    clear hh hpre hk
    generalize (pre.length : Int) = kk at hx
    clear pre kx
  case' done =>
    rintro D xs W hD hxs ⟨⟨hg, hx⟩, hB⟩ hK
    clear hxs hg
    generalize (xs.length : Int) = kk at hx
    clear xs
  all_goals
    have c3 := box_cell hx.k
    have z3 := hx.k.free 0
    have hDl := (Array.getElem?_eq_some_iff.1 hK).1
    have hx0 := hx.step 0
    have hB0 := hB.setCell (p := ⟨w.heap.size + 1 + 1 + 1, 0, none⟩) (by show w.heap.size ≤ w.heap.size + 1 + 1 + 1; omega) (.int .i64 0)
    have hK0 := (KeepsOthers.setCell W ⟨w.heap.size + 1 + 1 + 1, 0, none⟩ (.int .i64 0)).same D _ hK rfl
    gi_wp2_with (refine ⟨trivial, ?_⟩; gi_at_call 21; refine (callsIn_wide.2 (all_fn _ _)).mono ?_; rintro e w' ⟨rfl, rfl⟩)
    clear c3 z3
    generalize hW0 : W.setCell ⟨w.heap.size + 1 + 1 + 1, 0, none⟩ (.int .i64 0) = W0 at *
    have hs0 : W0.heap.size = W.heap.size := by rw [← hW0]; simp [World.setCell]
    clear hW0 hx hB hK
    obtain ⟨W2, hW2⟩ : ∃ W2, W0.alloc (.cells #[.pointer (some ⟨S, 0, none⟩)] 24) = W2 := ⟨_, rfl⟩
    have hbs2 : Holds W2 W.heap.size 24 [.pointer (some ⟨S, 0, none⟩)] := by rw [← hW2, ← hs0]; exact Holds.new _ _ _
    have hx2 : Boxes W2 w.heap.size (.slice a L.length cap) early false 0 := by rw [← hW2]; exact hx0.kept_row (World.grownBy_alloc _ _ none) (fun r e => by cases e)
    have hB2 : Below w.heap.size w W2 := by rw [← hW2]; exact hB0.alloc hB0.size _
    have hK2 : W2.heap[D]? = some (.deferred (some [])) := by rw [← hW2]; exact (Below.heap_alloc _ _ _ (by omega)).trans hK0
    have hsz2 : W2.heap.size = W.heap.size + 1 := by rw [← hW2, World.size_alloc, hs0]
    rw [hW2]
    clear hW2 hx0 hB0 hK0
    gi_wp2_with fail
    refine wpIn_rangeFunc_ownH rfl (by omega) (gf := 25) (lb := #[.pointer (some ⟨W.heap.size, 0, none⟩)]) rfl trivial (enters_of Try.func25 (by kernel_rfl) rfl)
      (all_stops 4 _ w.heap.size B S L st rm F W2 (hS.below hB2) hl (fun k hk => (hS.lt k hk).2) (by omega) hbs2) KpBox.trans (KpBox.book (by omega)) (Below.refl _ _) (fun _ => rfl)
      (fun pre W' => (((GoodPre L pre ∧ pre.length ≤ L.length) ∧ Boxes W' w.heap.size (.slice a L.length cap) early false pre.length) ∧ Below w.heap.size w W') ∧ W'.heap[D]? = some (.deferred (some [])))
      (fun c pre W' => (c = .ret ∧ ¬ GoodPre L pre) ∧ True)
      (OwnFrom.and (OwnFrom.and (Own.from (fun s A B row hs hg hr => ⟨hs.1, hs.2.kept_row hg hr⟩) _) (ownFrom_below (Nat.le_refl _) (by omega))) (fun s A B row hs hg hr => (hg.block D (Array.getElem?_eq_some_iff.1 hs).1 (fun e => by have := (hr D e.symm).1; omega)).trans hs))
      (fun c s A B row hs _ _ => hs)
      ⟨⟨⟨⟨rfl, Nat.zero_le _⟩, hx2⟩, hB2⟩, hK2⟩ (fun x a' W' => a' = { tmps := #[.pointer (some ⟨S, 0, none⟩), .slice a L.length cap, .int .i64 early, undef, .pointer (some ⟨w.heap.size, 0, none⟩), .pointer (some ⟨w.heap.size + 1, 0, none⟩), .pointer (some ⟨w.heap.size + 1 + 1, 0, none⟩), .pointer (some ⟨w.heap.size + 1 + 1 + 1, 0, none⟩), undef, undef, .int .i64 (x.1 : Int), .string x.2, .pointer (some ⟨S, 0, none⟩), .func (.func 25) #[] #[.pointer (some ⟨w.heap.size + 1 + 1 + 1 + 1, 0, none⟩)], undef, undef, undef, undef, undef, undef, undef, undef, undef, undef, undef, undef, undef, undef, undef, undef, undef, undef, undef, undef, undef, undef, undef, undef, .pointer (some ⟨S, 0, none⟩), .func (.func 25) #[] #[.pointer (some ⟨W.heap.size, 0, none⟩)], .int .i64 (x.1 : Int), .string x.2, undef, undef, undef, undef, undef, undef, undef, undef, undef, undef, undef, undef, undef, undef, undef, undef, undef, undef, undef, undef, undef, undef, undef], defers := [] }) (fun x a' s A B row hs _ _ => hs) ?assign2 ?body2 ?done2 ?stop2
    case assign2 =>
      intro l pre x W' K hi hK
      dsimp only [encs]
      gi_wp2
      exact hK _ _ (KeepsFrom.refl _ _) (KpBox.refl _ _ _ _) hi rfl
    case body2 =>
      rintro l pre x a' Wb hlt hrec ⟨⟨⟨⟨hgp, hpl⟩, hx⟩, hB⟩, hKd⟩ rfl hlen
      have c0 := box_cell hx.want
      have c1 := box_cell hx.early
      have c2 := box_cell hx.res
      have c3 := box_cell hx.k
      have z2 := hx.res.free 0
      have z3 := hx.k.free 0
      obtain ⟨g, rfl, hg, hgc, hc⟩ := row_cell hrow hlen
      have hc' := (hB.cell (p := ⟨g, pre.length, none⟩) hg).trans hc
      have hgd : L.getD pre.length ByteArray.empty = L[pre.length] := by rw [List.getD_eq_getElem?_getD, List.getElem?_eq_getElem hlen]; rfl
      have HG := Lib.hid hgd
      clear hgd
      by_cases hx1 : x.1 = pre.length
      · by_cases hx2 : x.2 = L[pre.length]
        · have HP : Hid (GoodPre L (pre ++ [x])) := good_snoc.2 ⟨hgp, by rw [HG.out]; exact Prod.ext hx1 hx2⟩
          have hq := hx.step (pre.length + 1 : Int)
          gi_wp2
          · exact ⟨(KeepsOthers.setCell _ _ _).from _, KpBox.set _ (by show w.heap.size ≤ w.heap.size + 1 + 1 + 1; omega) (by intro e; have : W.heap.size = w.heap.size + 1 + 1 + 1 := e; omega) _, ⟨⟨⟨HP.out, by simp; omega⟩, by rw [List.length_append]; exact hq⟩, hB.setCell (p := ⟨w.heap.size + 1 + 1 + 1, 0, none⟩) (by show w.heap.size ≤ w.heap.size + 1 + 1 + 1; omega) _⟩, (KeepsOthers.setCell _ _ _).same D _ hKd rfl⟩
        · have HP : Hid (¬ GoodPre L (pre ++ [x])) := fun h => hx2 (by have := (good_snoc.1 h).2; rw [this]; exact HG.out)
          have hb : (x.2.toList == L[pre.length].toList) = false := by rw [Bool.eq_false_iff]; exact fun e => hx2 (bytes_eq e)
          clear hx2
          gi_wp2
          exact ⟨(KeepsOthers.setCell _ _ _).from _, ⟨⟨rfl, HP.out⟩, trivial⟩⟩
      · have HP : Hid (¬ GoodPre L (pre ++ [x])) := fun h => hx1 (by have := (good_snoc.1 h).2; rw [this])
        have hb : ((x.1 : Int) == (pre.length : Int)) = false := by simp; omega
        have hb' : (x.1 == pre.length) = false := by simpa using hx1
        have hb2 : ((x.1 : Int) != (pre.length : Int)) = true := by simp; omega
        have hb3 : (x.1 != pre.length) = true := by simpa using hx1
        clear hx1
        gi_wp2
        exact ⟨(KeepsOthers.setCell _ _ _).from _, ⟨⟨rfl, HP.out⟩, trivial⟩⟩
    case stop2 =>
      rintro D2 c pre W' hD2 ⟨kx, hk, hpre⟩ ⟨⟨_, hng⟩, _⟩ hK
      exact absurd (by unfold GoodPre; rw [hpre, enumTo_length]) hng
    case done2 =>
      rintro D2 xs W' hD2 rfl ⟨⟨⟨_, hx⟩, hB⟩, hKd⟩ hKd2
      rw [enumTo_length] at hx
      have c0 := box_cell hx.want
      have c2 := box_cell hx.res
      have c3 := box_cell hx.k
      have z2 := hx.res.free 0
      gi_wp2
      have hK3 := (KeepsOthers.setCell W' ⟨w.heap.size + 1 + 1, 0, none⟩ (.bool true)).same D _ hKd rfl
      have hK4 := (KeepsOthers.setCell W' ⟨w.heap.size + 1 + 1, 0, none⟩ (.bool true)).same D2 _ hKd2 rfl
      have hr3 := hx.res.put 0 (.bool true)
      have hB3 := hB.setCell (p := ⟨w.heap.size + 1 + 1, 0, none⟩) (by show w.heap.size ≤ w.heap.size + 1 + 1; omega) (.bool true)
      have hK5 : ((W'.setCell ⟨w.heap.size + 1 + 1, 0, none⟩ (.bool true)).putObj D2 (.deferred none)).heap[D]? = some (.deferred (some [])) := (World.putObj_heap_other (by omega)).trans hK3
      have hr5 := (hr3.kept_row (grownBy_putObj' _ D2 (.deferred none)) (fun r e => by cases e; exact ⟨_, hK4, rfl⟩)).kept_row (grownBy_putObj' _ D (.deferred none)) (fun r e => by cases e; exact ⟨_, hK5, rfl⟩)
      have d5 := box_cell hr5
      refine ⟨by simp, .inl ⟨_, _, rfl, run_takeDeferred hK4, ⟨by simp, .inl ⟨_, _, rfl, run_takeDeferred hK5, ?_⟩⟩⟩⟩
      refine ⟨.bool true, ?_, rfl, (hB3.trans (belowK_b (w := w) (Nat.le_refl _) _ D2 _ _ (by omega) hK4 rfl rfl)).trans (belowK_b (w := w) (Nat.le_refl _) _ D _ _ (by omega) hK5 rfl rfl)⟩
      simp [results, Try.f20, go_sem, d5]
end Go.Proofs.Ytgacglmbhfppgaa
