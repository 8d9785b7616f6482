/- Shp, Spl, joined. -/
import Derived.Test.YtpednhcfkjjcpaaMg6
section
/- Rows that may be written into, whatever they hold: shapes that stand while such rows are spoilt; the statements' write. -/
namespace Go.Proofs.Ytpednhcfkjjcpaa
open Go.RowKit
set_option linter.unusedVariables false
set_option linter.unusedSimpArgs false

/-- A row of numbers that may be written into. -/
def SI (R : Nat → Prop) (w : World) (v : Value) : Prop := v = .slice none 0 0 ∨ ∃ g n c cs, v = .slice (some ⟨g, 0, none⟩) n c ∧ n ≤ c ∧ c ≤ 9223372036854775807 ∧ R g ∧ Holds w g 3 cs ∧ c ≤ cs.length
/-- The arcs of a row: their rows of numbers may be written into. -/
def AE (R : Nat → Prop) (w : World) (cs : List Value) (n : Nat) : Prop := ∀ k, k < n → ∃ rs ws, cs[k * 6 + 3]? = some rs ∧ cs[k * 6 + 4]? = some ws ∧ SI R w rs ∧ SI R w ws
def SA (R : Nat → Prop) (w : World) (v : Value) : Prop := v = .slice none 0 0 ∨ ∃ g n c cs, v = .slice (some ⟨g, 0, none⟩) n c ∧ n ≤ c ∧ n ≤ 1000000000 ∧ R g ∧ Holds w g 86 cs ∧ n * 6 ≤ cs.length ∧ AE R w cs n
section
variable {R R' : Nat → Prop} {w w' : World}
theorem SI.up (hu : Keep R w w') {v : Value} (h : SI R w v) : SI R w' v := h.imp id fun ⟨g, n, c, cs, h1, h2, h3, h4, h5, h6⟩ => ⟨g, n, c, cs, h1, h2, h3, h4, h5.of_eq (hu g h4 h5.lt), h6⟩
theorem SI.mono (hl : Wide R R' w) {v : Value} (h : SI R w v) : SI R' w v := h.imp id fun ⟨g, n, c, cs, h1, h2, h3, h4, h5, h6⟩ => ⟨g, n, c, cs, h1, h2, h3, hl g h4 h5.lt, h5, h6⟩
theorem AE.up (hu : Keep R w w') {cs : List Value} {n : Nat} (h : AE R w cs n) : AE R w' cs n := fun k hk => by
  obtain ⟨rs, ws, h1, h2, h3, h4⟩ := h k hk
  exact ⟨rs, ws, h1, h2, h3.up hu, h4.up hu⟩
theorem AE.mono (hl : Wide R R' w) {cs : List Value} {n : Nat} (h : AE R w cs n) : AE R' w cs n := fun k hk => by
  obtain ⟨rs, ws, h1, h2, h3, h4⟩ := h k hk
  exact ⟨rs, ws, h1, h2, h3.mono hl, h4.mono hl⟩
theorem SA.up (hu : Keep R w w') {v : Value} (h : SA R w v) : SA R w' v := h.imp id fun ⟨g, n, c, cs, h1, h2, h2', h3, h4, h5, h6⟩ => ⟨g, n, c, cs, h1, h2, h2', h3, h4.of_eq (hu g h3 h4.lt), h5, h6.up hu⟩
theorem SA.mono (hl : Wide R R' w) {v : Value} (h : SA R w v) : SA R' w v := h.imp id fun ⟨g, n, c, cs, h1, h2, h2', h3, h4, h5, h6⟩ => ⟨g, n, c, cs, h1, h2, h2', hl g h3 h4.lt, h4, h5, h6.mono hl⟩
end
/-- What a stretch of spoiling keeps. -/
structure Sp (R : Nat → Prop) (w w' : World) : Prop where
  fr : Fr R w w'
  si : ∀ v, SI R w v → SI R w' v
  sa : ∀ v, SA R w v → SA R w' v
  node : ∀ g cs, Holds w g 81 cs → Holds w' g 81 cs
  net : ∀ g cs, Holds w g 24 cs → Holds w' g 24 cs
  mov : ∀ g cs, Holds w g 75 cs → Holds w' g 75 cs
theorem Sp.refl (R : Nat → Prop) (w : World) : Sp R w w := ⟨Fr.refl _ _, fun _ h => h, fun _ h => h, fun _ _ h => h, fun _ _ h => h, fun _ _ h => h⟩
theorem Sp.trans {R : Nat → Prop} {a b c : World} (h : Sp R a b) (k : Sp R b c) : Sp R a c := ⟨h.fr.trans k.fr fun _ _ h => h, fun v q => k.si v (h.si v q), fun v q => k.sa v (h.sa v q), fun g cs q => k.node g cs (h.node g cs q), fun g cs q => k.net g cs (h.net g cs q), fun g cs q => k.mov g cs (h.mov g cs q)⟩
/-- A block of numbers is written into. -/
theorem Sp.ints {R : Nat → Prop} {w w' : World} {g : Nat} {cs cs' : List Value} (hg : R g) (h : Holds w g 3 cs) (h' : Holds w' g 3 cs') (hl : cs'.length = cs.length) (hf : Fr (fun q => q = g) w w') : Sp R w w' := by
  have ht : ∀ {g' : Nat} {t : TypeId} {ds : List Value}, t ≠ 3 → Holds w g' t ds → Holds w' g' t ds := fun hne hh => hf.holds hh (hh.ne_of_type h hne)
  have hsi : ∀ v, SI R w v → SI R w' v := fun v hv => hv.imp id fun ⟨g1, n, c, ds, h1, h2, h3, h4, h5, h6⟩ => by
    by_cases e : g1 = g
    · subst e
      have he : ds = cs := by
        unfold Holds at h5 h
        rw [h5] at h
        injection h with h
        injection h with h
        exact Array.toList_inj.2 h
      subst he
      exact ⟨g1, n, c, cs', h1, h2, h3, h4, h', by omega⟩
    · exact ⟨g1, n, c, ds, h1, h2, h3, h4, hf.holds h5 e, h6⟩
  refine ⟨hf.mono fun k _ hk => by rw [hk]; exact hg, hsi, fun v hv => hv.imp id fun ⟨g1, n, c, ds, h1, h2, h2', h3, h4, h5, h6⟩ => ⟨g1, n, c, ds, h1, h2, h2', h3, ht (by decide) h4, h5, fun k hk => ?_⟩, fun g cs hh => ht (by decide) hh, fun g cs hh => ht (by decide) hh, fun g cs hh => ht (by decide) hh⟩
  obtain ⟨rs, ws, q1, q2, q3, q4⟩ := h6 k hk
  exact ⟨rs, ws, q1, q2, hsi _ q3, hsi _ q4⟩
def spoilA : List Value := [.int .i64 66, .int .i64 (-5), .int .i64 0, .slice none 0 0, .slice none 0 0, .int .u64 0]
/-- An arc is overwritten. -/
theorem Sp.arc {R : Nat → Prop} {w w' : World} {g k : Nat} {cs : List Value} (hg : R g) (h : Holds w g 86 cs) (hk : k * 6 + 6 ≤ cs.length) (hw : w' = setR w g (k * 6) spoilA) : Sp R w w' := by
  have hf : Fr (fun q => q = g) w w' := by rw [hw]; exact Fr.setRX g spoilA (k * 6) w
  have h' : Holds w' g 86 (cs.take (k * 6) ++ (spoilA ++ cs.drop (k * 6 + 6))) := h.stored hw hk
  have ht : ∀ {g' : Nat} {t : TypeId} {ds : List Value}, t ≠ 86 → Holds w g' t ds → Holds w' g' t ds := fun hne hh => hf.holds hh (hh.ne_of_type h hne)
  have hsi : ∀ v, SI R w v → SI R w' v := fun v hv => hv.imp id fun ⟨g1, n, c, ds, h1, h2, h3, h4, h5, h6⟩ => ⟨g1, n, c, ds, h1, h2, h3, h4, ht (by decide) h5, h6⟩
  have hlen : (cs.take (k * 6) ++ (spoilA ++ cs.drop (k * 6 + 6))).length = cs.length := by simp [spoilA]; omega
  have hat : ∀ i, (i < k * 6 ∨ k * 6 + 6 ≤ i) → (cs.take (k * 6) ++ (spoilA ++ cs.drop (k * 6 + 6)))[i]? = cs[i]? := fun i hi => by
    rcases hi with hi | hi
    · rw [List.getElem?_append_left (by simp; omega), List.getElem?_take_of_lt hi]
    · rw [List.getElem?_append_right (by simp; omega), List.getElem?_append_right (by simp [spoilA]; omega), List.getElem?_drop]
      congr 1
      simp [spoilA]
      omega
  refine ⟨hf.mono fun k _ hk => by rw [hk]; exact hg, hsi, fun v hv => hv.imp id fun ⟨g1, n, c, ds, h1, h2, h2', h3, h4, h5, h6⟩ => ?_, fun g cs hh => ht (by decide) hh, fun g cs hh => ht (by decide) hh, fun g cs hh => ht (by decide) hh⟩
  by_cases e : g1 = g
  · subst e
    have he : ds = cs := by
      unfold Holds at h4 h
      rw [h4] at h
      injection h with h
      injection h with h
      exact Array.toList_inj.2 h
    subst he
    refine ⟨g1, n, c, _, h1, h2, h2', h3, h', by omega, fun i hi => ?_⟩
    have hi6 : i * 6 + 6 ≤ ds.length := by omega
    by_cases e : i = k
    · subst e
      refine ⟨.slice none 0 0, .slice none 0 0, ?_, ?_, .inl rfl, .inl rfl⟩
      · rw [List.getElem?_append_right (by simp; omega), List.getElem?_append_left (by simp [spoilA]; omega)]
        rw [show i * 6 + 3 - (ds.take (i * 6)).length = 3 by simp; omega]
        rfl
      · rw [List.getElem?_append_right (by simp; omega), List.getElem?_append_left (by simp [spoilA]; omega)]
        rw [show i * 6 + 4 - (ds.take (i * 6)).length = 4 by simp; omega]
        rfl
    · obtain ⟨rs, ws, q1, q2, q3, q4⟩ := h6 i hi
      exact ⟨rs, ws, by rw [hat _ (by omega)]; exact q1, by rw [hat _ (by omega)]; exact q2, hsi _ q3, hsi _ q4⟩
  · refine ⟨g1, n, c, ds, h1, h2, h2', h3, hf.holds h4 e, h5, fun i hi => ?_⟩
    obtain ⟨rs, ws, q1, q2, q3, q4⟩ := h6 i hi
    exact ⟨rs, ws, q1, q2, hsi _ q3, hsi _ q4⟩
/-- Blocks are laid. -/
theorem Sp.below {R : Nat → Prop} {w w' : World} (hb : Below w.heap.size w w') : Sp R w w' := ⟨Fr.of_below hb _, fun v h => h.up (Keep.below hb), fun v h => h.up (Keep.below hb), fun g cs h => h.belowAll hb, fun g cs h => h.belowAll hb, fun g cs h => h.belowAll hb⟩
def NoneP (e : Ending) : Prop := ∃ v, e = .returned v
end Go.Proofs.Ytpednhcfkjjcpaa
end
section
/- The walk of the statements' spoil: every row of a graph is written into. -/
namespace Go.Proofs.Ytpednhcfkjjcpaa
open Go.RowKit
set_option linter.unusedVariables false
set_option linter.unusedSimpArgs false

/-- A graph all of whose rows may be written into. -/
def SN (R : Nat → Prop) (w : World) (v : Value) : Prop := ∃ g n c cs, v = .slice (some ⟨g, 0, none⟩) n c ∧ n ≤ c ∧ n ≤ 1000000000 ∧ R g ∧ Holds w g 81 cs ∧ n * 5 ≤ cs.length ∧ ∀ i, i < n → ∃ va, cs[i * 5]? = some va ∧ SA R w va
def spoilN : List Value := [.slice none 0 0, .int .u64 66, .bool false, .bool false, .bool false]
theorem spoilN_at {cs : List Value} {i j : Nat} (h : j * 5 + 5 ≤ cs.length) (hi : i * 5 + 5 ≤ cs.length) : (cs.take (j * 5) ++ (spoilN ++ cs.drop (j * 5 + 5)))[i * 5]? = if i = j then some (.slice none 0 0) else cs[i * 5]? := by
  by_cases e : i = j
  · subst e
    rw [if_pos rfl, List.getElem?_append_right (by simp; omega), List.getElem?_append_left (by simp [spoilN]; omega)]
    rw [show i * 5 - (cs.take (i * 5)).length = 0 by simp; omega]
    rfl
  · rw [if_neg e]
    by_cases hij : i < j
    · rw [List.getElem?_append_left (by simp; omega), List.getElem?_take_of_lt (by omega)]
    · rw [List.getElem?_append_right (by simp; omega), List.getElem?_append_right (by simp [spoilN]; omega), List.getElem?_drop]
      congr 1
      simp [spoilN]
      omega
theorem SA.form {R : Nat → Prop} {w : World} {v : Value} (h : SA R w v) : ∃ a n c, v = .slice a n c ∧ n ≤ 1000000000 := by
  rcases h with rfl | ⟨g, n, c, cs, rfl, _, h, _⟩
  · exact ⟨_, _, _, rfl, by omega⟩
  · exact ⟨_, _, _, rfl, h⟩
theorem SA.at {R : Nat → Prop} {w : World} {a : Option Addr} {n c k : Nat} (h : SA R w (.slice a n c)) (hk : k < n) : ∃ g cs rs ws, a = some ⟨g, 0, none⟩ ∧ R g ∧ Holds w g 86 cs ∧ k * 6 + 6 ≤ cs.length ∧ w.cell? ⟨g, k * 6 + 3, none⟩ = some rs ∧ w.cell? ⟨g, k * 6 + 4, none⟩ = some ws ∧ SI R w rs ∧ SI R w ws := by
  rcases h with h | ⟨g, n', c', cs, h, h2, h3, h4, h5, h6, h7⟩
  · injection h with _ h _
    omega
  · injection h with e1 e2 e3
    subst e1 e2 e3
    obtain ⟨rs, ws, q1, q2, q3, q4⟩ := h7 k hk
    exact ⟨g, cs, rs, ws, rfl, h4, h5, by omega, (h5.cell _).trans q1, (h5.cell _).trans q2, q3, q4⟩
end Go.Proofs.Ytpednhcfkjjcpaa
end
