/- Rows that may be written into, whatever they hold: shapes that stand while such rows are spoilt; the statements' write. -/
import Derived.Test.YtcedenoicmpjmaaCpy
namespace Go.Proofs.Ytcedenoicmpjmaa
open Go.RowKit
set_option linter.unusedVariables false
set_option linter.unusedSimpArgs false

/-- A row of numbers that may be written into. -/
def SI (R : Nat → Prop) (w : World) (v : Value) : Prop := v = .slice none 0 0 ∨ ∃ g n c cs, v = .slice (some ⟨g, 0, none⟩) n c ∧ n ≤ c ∧ c ≤ 9223372036854775807 ∧ R g ∧ Holds w g 3 cs ∧ c ≤ cs.length
/-- The arcs of a row: their rows of numbers may be written into. -/
def AE (R : Nat → Prop) (w : World) (cs : List Value) (n : Nat) : Prop := ∀ k, k < n → ∃ rs ws, cs[k * 6 + 3]? = some rs ∧ cs[k * 6 + 4]? = some ws ∧ SI R w rs ∧ SI R w ws
def SA (R : Nat → Prop) (w : World) (v : Value) : Prop := v = .slice none 0 0 ∨ ∃ g n c cs, v = .slice (some ⟨g, 0, none⟩) n c ∧ n ≤ c ∧ n ≤ 1000000000 ∧ R g ∧ Holds w g 55 cs ∧ n * 6 ≤ cs.length ∧ AE R w cs n
section
variable {R R' : Nat → Prop} {w w' : World}
theorem SI.up (hu : Keep R w w') {v : Value} (h : SI R w v) : SI R w' v := h.imp id fun ⟨g, n, c, cs, h1, h2, h3, h4, h5, h6⟩ => ⟨g, n, c, cs, h1, h2, h3, h4, h5.of_eq (hu g h4 h5.lt), h6⟩
theorem SI.mono (hl : Wide R R' w) {v : Value} (h : SI R w v) : SI R' w v := h.imp id fun ⟨g, n, c, cs, h1, h2, h3, h4, h5, h6⟩ => ⟨g, n, c, cs, h1, h2, h3, hl g h4 h5.lt, h5, h6⟩
theorem AE.up (hu : Keep R w w') {cs : List Value} {n : Nat} (h : AE R w cs n) : AE R w' cs n := fun k hk => by
  obtain ⟨rs, ws, h1, h2, h3, h4⟩ := h k hk
  exact ⟨rs, ws, h1, h2, h3.up hu, h4.up hu⟩
theorem AE.mono (hl : Wide R R' w) {cs : List Value} {n : Nat} (h : AE R w cs n) : AE R' w cs n := fun k hk => by
  obtain ⟨rs, ws, h1, h2, h3, h4⟩ := h k hk
  exact ⟨rs, ws, h1, h2, h3.mono hl, h4.mono hl⟩
theorem SA.up (hu : Keep R w w') {v : Value} (h : SA R w v) : SA R w' v := h.imp id fun ⟨g, n, c, cs, h1, h2, h2', h3, h4, h5, h6⟩ => ⟨g, n, c, cs, h1, h2, h2', h3, h4.of_eq (hu g h3 h4.lt), h5, h6.up hu⟩
theorem SA.mono (hl : Wide R R' w) {v : Value} (h : SA R w v) : SA R' w v := h.imp id fun ⟨g, n, c, cs, h1, h2, h2', h3, h4, h5, h6⟩ => ⟨g, n, c, cs, h1, h2, h2', hl g h3 h4.lt, h4, h5, h6.mono hl⟩
end
/-- What a stretch of spoiling keeps. -/
structure Sp (R : Nat → Prop) (w w' : World) : Prop where
  fr : Fr R w w'
  si : ∀ v, SI R w v → SI R w' v
  sa : ∀ v, SA R w v → SA R w' v
  node : ∀ g cs, Holds w g 53 cs → Holds w' g 53 cs
  net : ∀ g cs, Holds w g 24 cs → Holds w' g 24 cs
  mov : ∀ g cs, Holds w g 79 cs → Holds w' g 79 cs
theorem Sp.refl (R : Nat → Prop) (w : World) : Sp R w w := ⟨Fr.refl _ _, fun _ h => h, fun _ h => h, fun _ _ h => h, fun _ _ h => h, fun _ _ h => h⟩
theorem Sp.trans {R : Nat → Prop} {a b c : World} (h : Sp R a b) (k : Sp R b c) : Sp R a c := ⟨h.fr.trans k.fr fun _ _ h => h, fun v q => k.si v (h.si v q), fun v q => k.sa v (h.sa v q), fun g cs q => k.node g cs (h.node g cs q), fun g cs q => k.net g cs (h.net g cs q), fun g cs q => k.mov g cs (h.mov g cs q)⟩
/-- A block of numbers is written into. -/
theorem Sp.ints {R : Nat → Prop} {w w' : World} {g : Nat} {cs cs' : List Value} (hg : R g) (h : Holds w g 3 cs) (h' : Holds w' g 3 cs') (hl : cs'.length = cs.length) (hf : Fr (fun q => q = g) w w') : Sp R w w' := by
  have ht : ∀ {g' : Nat} {t : TypeId} {ds : List Value}, t ≠ 3 → Holds w g' t ds → Holds w' g' t ds := fun hne hh => hf.holds hh (hh.ne_of_type h hne)
  have hsi : ∀ v, SI R w v → SI R w' v := fun v hv => hv.imp id fun ⟨g1, n, c, ds, h1, h2, h3, h4, h5, h6⟩ => by
    by_cases e : g1 = g
    · subst e
      have he : ds = cs := by
        unfold Holds at h5 h
        rw [h5] at h
        injection h with h
        injection h with h
        exact Array.toList_inj.2 h
      subst he
      exact ⟨g1, n, c, cs', h1, h2, h3, h4, h', by omega⟩
    · exact ⟨g1, n, c, ds, h1, h2, h3, h4, hf.holds h5 e, h6⟩
  refine ⟨hf.mono fun k _ hk => by rw [hk]; exact hg, hsi, fun v hv => hv.imp id fun ⟨g1, n, c, ds, h1, h2, h2', h3, h4, h5, h6⟩ => ⟨g1, n, c, ds, h1, h2, h2', h3, ht (by decide) h4, h5, fun k hk => ?_⟩, fun g cs hh => ht (by decide) hh, fun g cs hh => ht (by decide) hh, fun g cs hh => ht (by decide) hh⟩
  obtain ⟨rs, ws, q1, q2, q3, q4⟩ := h6 k hk
  exact ⟨rs, ws, q1, q2, hsi _ q3, hsi _ q4⟩
def spoilA : List Value := [.int .i64 66, .int .i64 (-5), .int .i64 0, .slice none 0 0, .slice none 0 0, .int .u64 0]
/-- An arc is overwritten. -/
theorem Sp.arc {R : Nat → Prop} {w w' : World} {g k : Nat} {cs : List Value} (hg : R g) (h : Holds w g 55 cs) (hk : k * 6 + 6 ≤ cs.length) (hw : w' = setR w g (k * 6) spoilA) : Sp R w w' := by
  have hf : Fr (fun q => q = g) w w' := by rw [hw]; exact Fr.setRX g spoilA (k * 6) w
  have h' : Holds w' g 55 (cs.take (k * 6) ++ (spoilA ++ cs.drop (k * 6 + 6))) := h.stored hw hk
  have ht : ∀ {g' : Nat} {t : TypeId} {ds : List Value}, t ≠ 55 → Holds w g' t ds → Holds w' g' t ds := fun hne hh => hf.holds hh (hh.ne_of_type h hne)
  have hsi : ∀ v, SI R w v → SI R w' v := fun v hv => hv.imp id fun ⟨g1, n, c, ds, h1, h2, h3, h4, h5, h6⟩ => ⟨g1, n, c, ds, h1, h2, h3, h4, ht (by decide) h5, h6⟩
  have hlen : (cs.take (k * 6) ++ (spoilA ++ cs.drop (k * 6 + 6))).length = cs.length := by simp [spoilA]; omega
  have hat : ∀ i, (i < k * 6 ∨ k * 6 + 6 ≤ i) → (cs.take (k * 6) ++ (spoilA ++ cs.drop (k * 6 + 6)))[i]? = cs[i]? := fun i hi => by
    rcases hi with hi | hi
    · rw [List.getElem?_append_left (by simp; omega), List.getElem?_take_of_lt hi]
    · rw [List.getElem?_append_right (by simp; omega), List.getElem?_append_right (by simp [spoilA]; omega), List.getElem?_drop]
      congr 1
      simp [spoilA]
      omega
  refine ⟨hf.mono fun k _ hk => by rw [hk]; exact hg, hsi, fun v hv => hv.imp id fun ⟨g1, n, c, ds, h1, h2, h2', h3, h4, h5, h6⟩ => ?_, fun g cs hh => ht (by decide) hh, fun g cs hh => ht (by decide) hh, fun g cs hh => ht (by decide) hh⟩
  by_cases e : g1 = g
  · subst e
    have he : ds = cs := by
      unfold Holds at h4 h
      rw [h4] at h
      injection h with h
      injection h with h
      exact Array.toList_inj.2 h
    subst he
    refine ⟨g1, n, c, _, h1, h2, h2', h3, h', by omega, fun i hi => ?_⟩
    have hi6 : i * 6 + 6 ≤ ds.length := by omega
    by_cases e : i = k
    · subst e
      refine ⟨.slice none 0 0, .slice none 0 0, ?_, ?_, .inl rfl, .inl rfl⟩
      · rw [List.getElem?_append_right (by simp; omega), List.getElem?_append_left (by simp [spoilA]; omega)]
        rw [show i * 6 + 3 - (ds.take (i * 6)).length = 3 by simp; omega]
        rfl
      · rw [List.getElem?_append_right (by simp; omega), List.getElem?_append_left (by simp [spoilA]; omega)]
        rw [show i * 6 + 4 - (ds.take (i * 6)).length = 4 by simp; omega]
        rfl
    · obtain ⟨rs, ws, q1, q2, q3, q4⟩ := h6 i hi
      exact ⟨rs, ws, by rw [hat _ (by omega)]; exact q1, by rw [hat _ (by omega)]; exact q2, hsi _ q3, hsi _ q4⟩
  · refine ⟨g1, n, c, ds, h1, h2, h2', h3, hf.holds h4 e, h5, fun i hi => ?_⟩
    obtain ⟨rs, ws, q1, q2, q3, q4⟩ := h6 i hi
    exact ⟨rs, ws, q1, q2, hsi _ q3, hsi _ q4⟩
/-- Blocks are laid. -/
theorem Sp.below {R : Nat → Prop} {w w' : World} (hb : Below w.heap.size w w') : Sp R w w' := ⟨Fr.of_below hb _, fun v h => h.up (Keep.below hb), fun v h => h.up (Keep.below hb), fun g cs h => h.belowAll hb, fun g cs h => h.belowAll hb, fun g cs h => h.belowAll hb⟩
def NoneP (e : Ending) : Prop := ∃ v, e = .returned v
set_option maxHeartbeats 1000000 in
set_option maxRecDepth 100000 in
theorem writeFn {R : Nat → Prop} {w : World} {v : Value} (h : SI R w v) : Calls Try.prog 30 #[v] w (fun e w' => NoneP e ∧ Sp R w w') := by
  rcases h with rfl | ⟨g, n, c, cs, rfl, hnc, hc, hR, hh, hl⟩
  · go_enter Try.func30, Try.ntmps30
    go_wp2
    go_loopw [2] (fun x wr => x = .int .i64 0 ∧ Hid (Sp R w wr)) (fun _ _ => 0)
    case atStart => exact ⟨rfl, Sp.refl _ _⟩
    case round =>
      obtain ⟨rfl, HS⟩ := hrel
      go_wp2
      refine bodyPost_end (results_none rfl _ _ _) rfl ?_
      exact ⟨⟨_, rfl⟩, HS.out⟩
  · have hc0 : (0 : Int) ≤ (c : Int) := by omega
    have hwc : IntKind.i64.wrap (c : Int) = (c : Int) := by rw [IntKind.wrap_i64]; omega
    have H := Lib.hid hh
    go_enter Try.func30, Try.ntmps30
    go_wp2
    go_loopw [2] (fun x wr => ∃ i : Nat, x = .int .i64 (i : Int) ∧ i ≤ c ∧ Hid (∃ ds, Holds wr g 3 ds ∧ ds.length = cs.length ∧ Fr (fun q => q = g) w wr)) (fun x _ => c - (intOf x).toNat)
    case atStart => exact ⟨0, rfl, Nat.zero_le _, cs, hh, rfl, Fr.refl _ _⟩
    case round =>
      obtain ⟨i, hx, hi, HS⟩ := hrel
      subst hx
      obtain ⟨ds, hd, hdl, hf⟩ := HS.out
      by_cases hic : i < c
      · have hi2 : (i : Int) < (c : Int) := by omega
        have hi0 : (0 : Int) ≤ (i : Int) := by omega
        have hwi : IntKind.i64.wrap (i : Int) = (i : Int) := by rw [IntKind.wrap_i64]; omega
        have hwi1 : IntKind.i64.wrap ((i : Int) + 1) = (i : Int) + 1 := by rw [IntKind.wrap_i64]; omega
        have HD := Lib.hid hd
        have HF := Lib.hid hf
        have hil : i < ds.length := by omega
        clear hd hf
        go_wp2_with (refine wpList_store1 rfl 3 _ _ rfl g i (.int .i64 (-66)) rfl rfl HD.out hil sz_Int rfl rfl ?_)
        refine Named.mk (fun w3 hw3 => ?_)
        have hd3 := HD.out.stored hw3 (by show i + 1 ≤ _; omega)
        have hf3 : Fr (fun q => q = g) wr w3 := by rw [hw3]; exact Fr.setRX g _ i wr
        have HS3 : Hid (∃ ds, Holds w3 g 3 ds ∧ ds.length = cs.length ∧ Fr (fun q => q = g) w w3) := ⟨_, hd3, by simp; omega, HF.out.trans hf3 fun _ _ h => h⟩
        clear hw3 hd3 hf3 HD HF HS
        go_wp2
        go_roundw
        case rel => exact ⟨i + 1, by simp, by omega, HS3.out⟩
        case measure => (simp [intOf]) <;> omega
      · obtain rfl : i = c := by omega
        have HSP : Hid (Sp R w wr) := Sp.ints hR hh hd hdl hf
        clear hd hf HS
        go_wp2
        refine bodyPost_end (results_none rfl _ _ _) rfl ?_
        exact ⟨⟨_, rfl⟩, HSP.out⟩
end Go.Proofs.Ytcedenoicmpjmaa
