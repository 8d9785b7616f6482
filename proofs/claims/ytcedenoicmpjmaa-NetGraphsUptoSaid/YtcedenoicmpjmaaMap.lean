/- The numbers of the nodes that are met, as a map. -/
import Derived.Test.YtcedenoicmpjmaaKey
import Derived.Maps.OwnIn
import Derived.Maps.OwnOps
namespace Go.Proofs.Ytcedenoicmpjmaa
open Go.RowKit Go.Maps
set_option linter.unusedVariables false
set_option linter.unusedSimpArgs false

structure NumD (D : DataW Unit) (st : List Nat) : Prop where
  isMap : IsMap D
  has : ∀ m, m ≤ 20000 → Maps.has D (.string (enc m)) = decide (m ∈ st)
  at_ : ∀ m, m ≤ 20000 → m ∈ st → ∀ z, D.atKey (.string (enc m)) z = .lit (.int .i64 (st.idxOf m : Int))
theorem NumD.nil : NumD (.map []) [] := ⟨isMap_empty, fun m _ => by simp [Maps.has], fun m _ h => by cases h⟩
theorem isKey_enc (m : Nat) : WideAt.IsKeyLit (.string (enc m)) := trivial
theorem NumD.put {D : DataW Unit} {st : List Nat} (h : NumD D st) {m : Nat} (hm : m ≤ 20000) (hn : m ∉ st) : NumD (D.put (.string (enc m)) (.lit (.int .i64 (st.length : Int)))) (st ++ [m]) := by
  refine ⟨h.isMap.put _ _, fun k hk => ?_, fun k hk hin z => ?_⟩
  · by_cases e : k = m
    · subst e
      rw [has_put_same h.isMap (isKey_enc k)]
      simp
    · rw [has_put_other (fun he => e (by injection he with he; exact enc_inj he hk hm)), h.has k hk]
      simp [e]
  · by_cases e : k = m
    · subst e
      rw [atKey_put_same h.isMap (isKey_enc k), List.idxOf_append, if_neg hn]
      simp
    · have hks : k ∈ st := by
        rcases List.mem_append.1 hin with h1 | h1
        · exact h1
        · rw [List.mem_singleton] at h1; exact absurd h1 e
      rw [atKey_put_other (fun he => e (by injection he with he; exact enc_inj he hk hm)), h.at_ k hk hks, List.idxOf_append, if_pos hks]
/-- The map in memory. -/
def NumV (w : World) (b n : Nat) (st : List Nat) : Prop := ∃ D : DataW Unit, w.ownsMap Try.prog 9 (plainElem Try.prog 3) b n D ∧ NumD D st
theorem str_keyed : Keyed Try.prog 9 := string_keyed Try.underlying9
theorem key_enc (m : Nat) (h : m ≤ 20000) : keyOf Try.prog 9 (.string (keyS m)) = some (.string (enc m)) := by
  have h1 := keyS_size h
  have h2 : (keyS m).size ≤ maxLen := by unfold maxLen; omega
  unfold keyOf mapKey
  rw [Try.underlying9]
  simp only
  rw [if_pos h2, keyS_list]
theorem NumV.alloc {w : World} {b n : Nat} {st : List Nat} (h : NumV w b n st) (o : Obj) : NumV (w.alloc o) b n st := by
  obtain ⟨D, h1, h2⟩ := h
  exact ⟨D, h1.alloc o, h2⟩
theorem NumV.set {w : World} {b n : Nat} {st : List Nat} (h : NumV w b n st) {p : Addr} (hp : b ≠ p.block) (v : Value) : NumV (w.setCell p v) b n st := by
  obtain ⟨D, h1, h2⟩ := h
  exact ⟨D, h1.setCell hp v, h2⟩
theorem NumV.of_eq {w w' : World} {b n : Nat} {st : List Nat} (h : NumV w b n st) (he : w'.heap[b]? = w.heap[b]?) : NumV w' b n st := by
  obtain ⟨D, ⟨es, clock, hb, F, hs, hD⟩, h2⟩ := h
  exact ⟨D, ⟨es, clock, he.trans hb, F, hs, hD⟩, h2⟩
theorem NumV.lt {w : World} {b n : Nat} {st : List Nat} (h : NumV w b n st) : b < w.heap.size := by
  obtain ⟨D, h1, _⟩ := h
  exact h1.lt
theorem NumV.ne {w : World} {b n g : Nat} {st : List Nat} {t : TypeId} {cs : List Value} (h : NumV w b n st) (hg : Holds w g t cs) : b ≠ g := by
  obtain ⟨D, ⟨es, clock, hb, _⟩, _⟩ := h
  rintro rfl
  unfold Holds at hg
  rw [hb] at hg
  cases hg
end Go.Proofs.Ytcedenoicmpjmaa
