/- StoreGoes: the states after so many rounds; what lies in memory between two rounds. -/
import Derived.Test.YtgacglmbhfppgaaKnows
import Derived.Test.YtgacglmbhfppgaaMany
namespace Go.Proofs.Ytgacglmbhfppgaa
open Go.RowKit Go.Shelf

/-- The states behind a Put. -/
def putL (L : List ByteArray) (st rm : Int) (s : ByteArray) : List ByteArray :=
  if L.any (fun x => x.toList == s.toList) then L else if st ≤ L.length ∨ rm - total L < s.size then L else L ++ [s]

theorem any_mem {L : List ByteArray} {s : ByteArray} : (L.any fun x => x.toList == s.toList) = true ↔ s ∈ L := by
  rw [List.any_eq_true]
  constructor
  · rintro ⟨x, hx, he⟩
    rw [← bytes_eq he]; exact hx
  · intro h
    exact ⟨s, h, by simp⟩

def PutAny (w : World) (B S : Nat) (L : List ByteArray) (st rm : Int) (F : Nat → Prop) (s : ByteArray) (e : Ending) (w' : World) : Prop :=
  (∃ v, e = .returned v) ∧ ∃ F' : Nat → Prop, StoreAt w' B S (putL L st rm s) st rm F' ∧ Fr F w w' ∧ ∀ k, F' k → F k ∨ w.heap.size ≤ k

theorem put_any_at {w : World} {B S : Nat} {L : List ByteArray} {st rm : Int} {F : Nat → Prop} (h : StoreAt w B S L st rm F) (hl : L.length ≤ 1000000) (s : ByteArray) (hsz : s.size ≤ maxLen) :
    Calls Try.prog 11 #[.pointer (some ⟨S, 0, none⟩), .string s] w (PutAny w B S L st rm F s) := by
  by_cases hm : s ∈ L
  · obtain ⟨i, hi, he⟩ := List.getElem_of_mem hm
    refine (put_old_at h hl s hsz i hi he).mono ?_
    rintro e w' ⟨rfl, hb⟩
    refine ⟨⟨_, rfl⟩, F, ?_, Fr.of_below hb _, fun k hk => .inl hk⟩
    unfold putL; rw [if_pos (any_mem.2 hm)]; exact h.below hb
  · by_cases hf : st ≤ L.length ∨ rm - total L < s.size
    · refine (put_full_at h hl s hsz hm hf).mono ?_
      rintro e w' ⟨rfl, hb⟩
      refine ⟨⟨_, rfl⟩, F, ?_, Fr.of_below hb _, fun k hk => .inl hk⟩
      unfold putL; rw [if_neg (mt any_mem.1 hm), if_pos hf]; exact h.below hb
    · refine (put_new_at h hl s hsz hm (by omega) (by omega)).mono ?_
      rintro e w' ⟨rfl, F', hS, hF, hG⟩
      refine ⟨⟨_, rfl⟩, F', ?_, hF, hG⟩
      unfold putL; rw [if_neg (mt any_mem.1 hm), if_neg hf]; exact hS

theorem putL_length (L : List ByteArray) (st rm : Int) (s : ByteArray) : L.length ≤ (putL L st rm s).length ∧ (putL L st rm s).length ≤ L.length + 1 := by
  unfold putL
  split
  · exact ⟨Nat.le_refl _, by omega⟩
  · split
    · exact ⟨Nat.le_refl _, by omega⟩
    · simp

theorem StoreAt.kept_row {w w' : World} {B S : Nat} {L : List ByteArray} {st rm : Int} {F : Nat → Prop} {row : Option Nat} (h : StoreAt w B S L st rm F) (hg : w.grownBy w' row) (hr : ∀ r, row = some r → ∃ o : Obj, w.heap[r]? = some o ∧ o.isCells = false) : StoreAt w' B S L st rm F := by
  refine h.fr (G := fun k => row = some k) ((Fr.refl _ _).grown hg fun k hk _ => hk) ?_
  obtain ⟨a, cap, gh, es, hs, hS, hI, hL, hm, hF⟩ := h.ex
  intro k hk he
  obtain ⟨o, ho, hc⟩ := hr k he
  rcases (hF k).1 hk with rfl | rfl | ⟨g, rfl, rfl⟩
  · have := hS.box; unfold Holds at this; rw [this] at ho; cases ho; cases hc
  · have := hS.heads; unfold Holds at this; rw [this] at ho; cases ho; cases hc
  · rcases hS.ents.2 with ⟨h0, _⟩ | ⟨g', cap', cur, hv, _, hh, _⟩
    · simp at h0
    · simp only [Value.slice.injEq, Option.some.injEq, Addr.mk.injEq, and_true, true_and] at hv
      obtain ⟨rfl, rfl⟩ := hv
      rw [hh] at ho; cases ho; cases hc

/-- What is put in round k. -/
def moreS (k : Nat) : ByteArray := (⟨#[109, 111, 114, 101, 32, 116, 104, 97, 110, 32, 116, 104, 101, 114, 101, 32, 105, 115, 58, 32]⟩ : ByteArray) ++ strOfNums [(k : Int)]

/-- The states when k rounds are over. -/
def goesL (L : List ByteArray) (ex : Nat) : Nat → List ByteArray
  | 0 => L
  | k + 1 => if k + 1 ≤ ex then putL (goesL L ex k) 1000 1073741824 (moreS (k + 1)) else goesL L ex k

theorem goesL_length (L : List ByteArray) (ex k : Nat) : L.length ≤ (goesL L ex k).length ∧ (goesL L ex k).length ≤ L.length + min k ex := by
  induction k with
  | zero => simp [goesL]
  | succ k ih =>
    unfold goesL
    split
    · have := putL_length (goesL L ex k) 1000 1073741824 (moreS (k + 1)); omega
    · omega

def enumG (L : List ByteArray) (ex k : Nat) : List (Nat × ByteArray) := (List.range k).map fun j => (j, (goesL L ex j).getD j ByteArray.empty)
theorem enumG_succ (L : List ByteArray) (ex k : Nat) : enumG L ex (k + 1) = enumG L ex k ++ [(k, (goesL L ex k).getD k ByteArray.empty)] := by simp [enumG, List.range_succ]
theorem enumG_length (L : List ByteArray) (ex k : Nat) : (enumG L ex k).length = k := by simp [enumG]

/-- The rounds that came are those that had to come. -/
def GoodG (L : List ByteArray) (ex : Nat) (pre : List (Nat × ByteArray)) : Prop := pre = enumG L ex pre.length ∧ ∀ j, j < pre.length → j < (goesL L ex j).length

theorem goodG_snoc {L : List ByteArray} {ex : Nat} {pre : List (Nat × ByteArray)} {x : Nat × ByteArray} : GoodG L ex (pre ++ [x]) ↔ GoodG L ex pre ∧ x = (pre.length, (goesL L ex pre.length).getD pre.length ByteArray.empty) ∧ pre.length < (goesL L ex pre.length).length := by
  unfold GoodG
  rw [List.length_append, show pre.length + [x].length = pre.length + 1 from rfl, enumG_succ]
  constructor
  · rintro ⟨h, h2⟩
    have h1 := List.append_inj h (by rw [enumG_length])
    exact ⟨⟨h1.1, fun j hj => h2 j (by omega)⟩, by simpa using h1.2, h2 _ (by omega)⟩
  · rintro ⟨⟨h1, h4⟩, h2, h3⟩
    refine ⟨by rw [← h1, h2], fun j hj => ?_⟩
    by_cases e : j = pre.length
    · subst e; exact h3
    · exact h4 j (by omega)

theorem goodG_enum {L : List ByteArray} {ex k : Nat} (h : ∀ j, j < k → j < (goesL L ex j).length) : GoodG L ex (enumG L ex k) := ⟨by rw [enumG_length], by rw [enumG_length]; exact h⟩

/-- Memory between two rounds: the store; the boxes of the result, of t, of extra, of k. -/
structure GoesAt (w W : World) (b4 b5 b7 b8 S : Nat) (L : List ByteArray) (res : Bool) (ex k : Int) : Prop where
  store : ∃ F : Nat → Prop, StoreAt W w.heap.size S L 1000 1073741824 F ∧ ¬ F b7 ∧ ¬ F b8
  res : Holds W b4 4 [.bool res]
  t : Holds W b5 24 [.pointer (some ⟨S, 0, none⟩)]
  ex : Holds W b7 3 [.int .i64 ex]
  k : Holds W b8 3 [.int .i64 k]
  below : Below w.heap.size w W

section
variable {w W W' : World} {b4 b5 b7 b8 S : Nat} {L : List ByteArray} {res : Bool} {ex k : Int}
theorem GoesAt.bel (h : GoesAt w W b4 b5 b7 b8 S L res ex k) (hb : Below W.heap.size W W') : GoesAt w W' b4 b5 b7 b8 S L res ex k := by
  obtain ⟨F, hS, h7, h8⟩ := h.store
  exact ⟨⟨F, hS.below hb, h7, h8⟩, h.res.of_eq (hb.block _ h.res.lt), h.t.of_eq (hb.block _ h.t.lt), h.ex.of_eq (hb.block _ h.ex.lt), h.k.of_eq (hb.block _ h.k.lt), h.below.trans (hb.mono h.below.size)⟩

theorem GoesAt.put (h : GoesAt w W b4 b5 b7 b8 S L res ex k) {F : Nat → Prop} {L' : List ByteArray} (hS : StoreAt W w.heap.size S L 1000 1073741824 F) (h7 : ¬ F b7) (h8 : ¬ F b8) (hp : ∃ F' : Nat → Prop, StoreAt W' w.heap.size S L' 1000 1073741824 F' ∧ Fr F W W' ∧ ∀ j, F' j → F j ∨ W.heap.size ≤ j) : GoesAt w W' b4 b5 b7 b8 S L' res ex k := by
  obtain ⟨F', hS', hF, hG⟩ := hp
  have l7 := h.ex.lt
  have l8 := h.k.lt
  exact ⟨⟨F', hS', fun h0 => (hG _ h0).elim h7 (fun h1 => by omega), fun h0 => (hG _ h0).elim h8 (fun h1 => by omega)⟩, hF.holds h.res (hS.apart_holds h.res (by decide) (by decide) (by decide)), hF.holds h.t (hS.apart_holds h.t (by decide) (by decide) (by decide)), hF.holds h.ex h7, hF.holds h.k h8,
    h.below.trans (hS.put_below h.below.size hF)⟩

theorem GoesAt.kept_row {row : Option Nat} (h : GoesAt w W b4 b5 b7 b8 S L res ex k) (hB : w.heap.size ≤ W.heap.size) (hg : W.grownBy W' row) (hr : ∀ r, row = some r → w.heap.size ≤ r ∧ ∃ o : Obj, W.heap[r]? = some o ∧ o.isCells = false) : GoesAt w W' b4 b5 b7 b8 S L res ex k := by
  obtain ⟨F, hS, h7, h8⟩ := h.store
  have hr' : ∀ r, row = some r → ∃ o : Obj, W.heap[r]? = some o ∧ o.isCells = false := fun r e => (hr r e).2
  exact ⟨⟨F, hS.kept_row hg hr', h7, h8⟩, h.res.kept_row hg hr', h.t.kept_row hg hr', h.ex.kept_row hg hr', h.k.kept_row hg hr', h.below.grown hg hB fun r e => (hr r e).1⟩

/-- k is counted up. -/
theorem GoesAt.step (h : GoesAt w W b4 b5 b7 b8 S L res ex k) (h8 : w.heap.size ≤ b8) (h78 : b7 ≠ b8) (j : Int) : GoesAt w (W.setCell ⟨b8, 0, none⟩ (.int .i64 j)) b4 b5 b7 b8 S L res ex j := by
  obtain ⟨F, hS, h7, h8'⟩ := h.store
  exact ⟨⟨F, hS.fr (G := fun i => i = b8) ((Fr.refl (fun i => i = b8) W).setCell (p := ⟨b8, 0, none⟩) (fun _ => rfl) _) (fun i hi e => h8' (e ▸ hi)), h7, h8'⟩, h.res.far (h.res.ne_of_type h.k (by decide)) _, h.t.far (h.t.ne_of_type h.k (by decide)) _, h.ex.far h78 _, h.k.put 0 _,
    h.below.setCell (p := ⟨b8, 0, none⟩) h8 _⟩

theorem GoesAt.own {β : Type} {B : Nat} (hB : w.heap.size ≤ B) (f : β → List ByteArray) (r : β → Int) : OwnFrom B (fun (s : β) W => GoesAt w W b4 b5 b7 b8 S (f s) res ex (r s)) :=
  fun _ _ _ _ hs hg hr => hs.kept_row hs.below.size hg fun i e => ⟨Nat.le_trans hB (hr i e).1, (hr i e).2⟩
end

section
variable {W W1 W' : World} {B Bs S : Nat}
/-- What a round of StoreGoes leaves as it lay: whatever is no cells, and the box of the iterator's receiver. -/
def Leaves (B Bs S : Nat) (W W' : World) : Prop := KeepsFrom B W W' ∧ KpBox 0 Bs S W W'
theorem Leaves.refl (B Bs S : Nat) (W : World) : Leaves B Bs S W W := ⟨KeepsFrom.refl _ _, KpBox.refl _ _ _ _⟩
theorem Leaves.trans (h : Leaves B Bs S W W1) (k : Leaves B Bs S W1 W') : Leaves B Bs S W W' :=
  ⟨h.1.trans k.1, h.2.trans k.2⟩
theorem Leaves.below (hb : Below W.heap.size W W') : Leaves B Bs S W W' :=
  ⟨⟨hb.size, fun k _ _ h0 _ => (hb.block k (Array.getElem?_eq_some_iff.1 h0).1).trans h0⟩, hb.mono (Nat.zero_le _), fun h => h.of_eq (hb.block _ h.lt)⟩
theorem Leaves.set (W : World) {p : Addr} (hne : Bs ≠ p.block) (u : Value) : Leaves B Bs S W (W.setCell p u) :=
  ⟨(KeepsOthers.setCell _ _ _).from _, ⟨(Below.refl 0 W).setCell (Nat.zero_le _) u, fun h => h.far hne u⟩⟩
theorem Leaves.put {L : List ByteArray} {st rm : Int} {F : Nat → Prop} {B' : Nat} (h : StoreAt W B' S L st rm F) (hF : Fr F W W') : Leaves B Bs S W W' := by
  have hcell : ∀ k, F k → ∃ c t z, W.heap[k]? = some (.cells c t z) := by
    obtain ⟨a, cap, gh, es, hs, hS, hI, hL, hm, hFF⟩ := h.ex
    intro k hk
    rcases (hFF k).1 hk with rfl | rfl | ⟨g, rfl, rfl⟩
    · exact ⟨_, _, _, hS.box⟩
    · exact ⟨_, _, _, hS.heads⟩
    · rcases hS.ents.2 with ⟨h0, _⟩ | ⟨g', cap', cur, hv, _, hh, _⟩
      · simp at h0
      · simp only [Value.slice.injEq, Option.some.injEq, Addr.mk.injEq, and_true, true_and] at hv
        obtain ⟨rfl, rfl⟩ := hv
        exact ⟨_, _, _, hh⟩
  refine ⟨⟨hF.size, fun k o _ h0 ho => (hF.block k (Array.getElem?_eq_some_iff.1 h0).1 fun hk => ?_).trans h0⟩, ⟨hF.os, hF.tape, hF.output, hF.size, fun k hk => by omega⟩, fun hb => hF.holds hb (h.apart_holds hb (by decide) (by decide) (by decide))⟩
  obtain ⟨c, t, z, hc⟩ := hcell k hk
  rw [hc] at h0
  cases h0
  cases ho
end

/-- One byte, as a text. -/
theorem conv_one (w : World) (c : Int) (g : Nat) (hg : w.heap.size = g) : (convert 28 9 (.slice (some ⟨g, 0, none⟩) 1 1)).run Try.prog (w.alloc (.cells #[.int .u8 c] 5)) = .ok (.string (strOfNums [c])) (w.alloc (.cells #[.int .u8 c] 5)) := by
  subst hg
  refine run_convert_bytes_arg (P := Try.prog) _ 28 5 Try.underlying28 Try.underlying5 w.heap.size 0 1 1 [c] rfl (fun i hi => ?_) 9 Try.underlying9
  obtain rfl : i = 0 := by omega
  exact box_cell (Holds.new w 5 #[.int .u8 c])
end Go.Proofs.Ytgacglmbhfppgaa
