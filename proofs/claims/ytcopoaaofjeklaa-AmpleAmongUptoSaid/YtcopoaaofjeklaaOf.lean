/- The walk of net.Of (printed by mkof.py). -/
import Derived.Test.YtcopoaaofjeklaaMa9
import Derived.Test.YtcopoaaofjeklaaMa2
namespace Go.Proofs.Ytcopoaaofjeklaa
open Go.RowKit
set_option linter.unusedVariables false
set_option linter.unusedSimpArgs false

/-- The cells of the j-th of things of m cells. -/
def cut (m j : Nat) (cs : List Value) : List Value := (cs.drop (j * m)).take m
theorem LsF.of_cut {A : Type} {F : (Nat → Prop) → World → A → List Value → Prop} {P : Nat → Prop} {w : World} {m : Nat} : ∀ (l : List A) (cs : List Value), (∀ (j : Nat) (h : j < l.length), F P w l[j] (cut m j cs)) → LsF F P w l (cs.take (l.length * m))
  | [], cs, h => by simp [LsF]
  | a :: l, cs, h => by
    have h0 := h 0 (by simp)
    refine ⟨cut m 0 cs, (cs.drop m).take (l.length * m), ?_, h0, LsF.of_cut l (cs.drop m) fun j hj => ?_⟩
    · unfold cut
      rw [Nat.zero_mul, List.drop_zero, List.length_cons, Nat.succ_mul, Nat.add_comm, List.take_add]
    · have := h (j + 1) (by simpa using hj)
      have e : (j + 1) * m = m + j * m := by rw [Nat.succ_mul, Nat.add_comm]
      unfold cut at this ⊢
      rw [List.drop_drop]
      rw [e] at this
      simpa using this
theorem cut_len {m j M : Nat} {cs : List Value} (h : M * m ≤ cs.length) (hj : j < M) : (cut m j cs).length = m := by
  unfold cut
  rw [List.length_take, List.length_drop]
  have : (j + 1) * m ≤ M * m := Nat.mul_le_mul_right _ hj
  rw [Nat.succ_mul] at this
  omega
theorem cut_get {m j q : Nat} {cs : List Value} (h : q < m) : (cut m j cs)[q]? = cs[j * m + q]? := by
  unfold cut
  rw [List.getElem?_take_of_lt h, List.getElem?_drop]
theorem cut_set {m j i q : Nat} {cs : List Value} {v : Value} (h : q < m) (hij : j ≠ i) : cut m j (cs.set (i * m + q) v) = cut m j cs := by
  unfold cut
  apply List.ext_getElem?
  intro t
  by_cases ht : t < m
  · rw [List.getElem?_take_of_lt ht, List.getElem?_take_of_lt ht, List.getElem?_drop, List.getElem?_drop, List.getElem?_set_ne]
    rcases Nat.lt_or_gt_of_ne hij with h1 | h1
    · have : (j + 1) * m ≤ i * m := Nat.mul_le_mul_right _ h1
      rw [Nat.succ_mul] at this
      omega
    · have : (i + 1) * m ≤ j * m := Nat.mul_le_mul_right _ h1
      rw [Nat.succ_mul] at this
      omega
  · rw [List.getElem?_eq_none (by rw [List.length_take]; omega), List.getElem?_eq_none (by rw [List.length_take]; omega)]
theorem cut_self {m i q : Nat} {cs : List Value} {v : Value} (h : q < m) : cut m i (cs.set (i * m + q) v) = (cut m i cs).set q v := by
  unfold cut
  apply List.ext_getElem?
  intro t
  by_cases ht : t < m
  · rw [List.getElem?_take_of_lt ht, List.getElem?_drop, List.getElem?_set, List.getElem?_set, List.getElem?_take_of_lt ht, List.getElem?_drop, List.length_take, List.length_drop]
    by_cases e : q = t
    · rw [if_pos (by omega), if_pos e]
      by_cases e2 : i * m + q < cs.length
      · rw [if_pos e2, if_pos (by omega)]
      · rw [if_neg e2, if_neg (by omega)]
    · rw [if_neg (by omega), if_neg e]
  · rw [List.getElem?_eq_none (by rw [List.length_take]; omega), List.getElem?_eq_none (by rw [List.length_set, List.length_take]; omega)]
theorem cut_take {m j M : Nat} {cs : List Value} (hj : j < M) : cut m j (cs.take (M * m)) = cut m j cs := by
  unfold cut
  have : (j + 1) * m ≤ M * m := Nat.mul_le_mul_right _ hj
  rw [Nat.succ_mul] at this
  rw [List.drop_take, List.take_take, Nat.min_eq_left (by omega)]
theorem owns_box {w : World} {base sz n : Nat} {e : TypeId} {v : Value} {xs : List Value} (h : w.ownsRow base e sz v n xs) (hn : 0 < n) : ∃ g cap cs, v = .slice (some ⟨g, 0, none⟩) n cap ∧ n ≤ cap ∧ base ≤ g ∧ Holds w g e cs ∧ n * sz ≤ cs.length ∧ cs.take (n * sz) = xs := by
  rcases h.2 with ⟨h0, h1⟩ | ⟨g, cap, cur, hv, hb, hg, hnc, hcm, hcs, ht⟩
  · omega
  · refine ⟨g, cap, cur.toList, hv, hnc, hb, (show Holds w g e cur.toList by unfold Holds; simpa using hg), ?_, ht⟩
    have : n * sz ≤ cap * sz := Nat.mul_le_mul_right _ hnc
    simp only [Array.length_toList]
    omega
theorem LsF.cut_at {A : Type} {F : (Nat → Prop) → World → A → List Value → Prop} {m : Nat} (H : One F m) {P : Nat → Prop} {w : World} : ∀ {l : List A} {f : List Value}, LsF F P w l f → ∀ (j : Nat) (h : j < l.length), F P w l[j] (cut m j f)
  | a :: l, f, ⟨c, r, h1, h2, h3⟩, 0, h => by
    have hc := H.len h2
    unfold cut
    rw [h1, Nat.zero_mul, List.drop_zero, List.take_append_of_le_length (by omega), List.take_of_length_le (by omega)]
    exact h2
  | a :: l, f, ⟨c, r, h1, h2, h3⟩, j + 1, h => by
    have hc := H.len h2
    have := LsF.cut_at H h3 j (by simpa using h)
    have he : cut m (j + 1) f = cut m j r := by
      unfold cut
      rw [h1, Nat.succ_mul, Nat.add_comm, ← hc, ← List.drop_drop, List.drop_left]
    rw [he]
    exact this
theorem Reads.on {ops : Array Oper} {R : Type} {val : R → Nat → Value} {sl : List (Nat × Nat)} {n : Nat} {a : Act} {o : Oper} {r : R} {L : Array Bool} {b : Act} (h : Reads ops val sl n a o r L b) {j : Nat} (hk : (o.after.any fun e => Region.binds .any e && e.on == j) = true) : L.getD j false = true := by
  obtain ⟨e, he, hb⟩ := Array.any_eq_true'.1 hk
  rw [Bool.and_eq_true, beq_iff_eq] at hb
  rw [← hb.2]
  exact h.dep e he hb.1
theorem ints_one (l : List Int) : ∀ u ∈ l.map intV, u.oneCell' = true := fun u h => by
  obtain ⟨b, _, rfl⟩ := List.mem_map.1 h
  rfl
theorem keep_set {P : Nat → Prop} {w : World} {b i : Nat} {v : Value} (h : ¬ P b) : Keep P w (w.setCell ⟨b, i, none⟩ v) := fun k hk hs => Below.heap_setCell _ _ _ _ (by rintro rfl; exact h hk)
theorem sz_Ints : (Try.prog.info? 22).map (·.size) = some 1 := by kernel_rfl
end Go.Proofs.Ytcopoaaofjeklaa
