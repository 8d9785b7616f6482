/- The walk of sextantlaw02.awake; words for rows of words. -/
import Derived.Test.YtndcbbhfhcjadaaDoorLTok
import Derived.BigQuiet
namespace Go.Proofs.YtndcbbhfhcjadaaDoor
open Go.RowKit
set_option linter.unusedVariables false

theorem owns_some {w : World} {base : Nat} {e : TypeId} {size n : Nat} {v : Value} {xs : List Value} (h : w.ownsRow base e size v n xs) (hn : 0 < n) :
    ∃ g cap, v = .slice (some ⟨g, 0, none⟩) n cap ∧ base ≤ g ∧ g < w.heap.size ∧ n ≤ cap ∧ cap ≤ maxLen ∧ (∀ j, j < n * size → w.cell? ⟨g, j, none⟩ = xs[j]?) ∧ ∀ j, w.frozen? ⟨g, j, none⟩ = false := by
  rcases h.2 with ⟨h0, h1⟩ | ⟨g, cap, cur, hv, hb, hg, hnc, hcm, hcs, ht⟩
  · omega
  · subst hv
    exact ⟨g, cap, rfl, hb, (Array.getElem?_eq_some_iff.1 hg).1, hnc, hcm, fun j hj => h.cellAt j hj, fun j => h.frozenAt j⟩
theorem owns_form {w : World} {base : Nat} {e : TypeId} {size n : Nat} {v : Value} {xs : List Value} (h : w.ownsRow base e size v n xs) :
    ∃ a cap, v = .slice a n cap ∧ n ≤ cap ∧ cap ≤ maxLen := by
  rcases h.2 with ⟨h0, h1⟩ | ⟨g, cap, cur, hv, hb, hg, hnc, hcm, hcs, ht⟩
  · exact ⟨none, 0, by rw [h0, h1], by omega, by unfold maxLen; omega⟩
  · exact ⟨_, cap, hv, hnc, hcm⟩

theorem flatT_at : ∀ (ts : List Tk) (i : Nat) (h : i < ts.length), (flatT ts)[i * 4]? = some (.int .i64 (ts[i].kind : Int)) ∧ (flatT ts)[i * 4 + 1]? = some (.string ⟨ts[i].text.toArray⟩) ∧ (flatT ts)[i * 4 + 2]? = some (.int .i64 (ts[i].num : Int)) ∧ (flatT ts)[i * 4 + 3]? = some (.int .i64 (ts[i].at_ : Int))
  | t :: ts, 0, _ => by simp [flatT, tkCells]
  | t :: ts, i + 1, h => by
    have hi := flatT_at ts i (by simpa using h)
    have e : flatT (t :: ts) = tkCells t ++ flatT ts := by simp [flatT]
    have hl : (tkCells t).length = 4 := rfl
    rw [e]
    rw [List.getElem?_append_right (by rw [hl]; omega), List.getElem?_append_right (by rw [hl]; omega), List.getElem?_append_right (by rw [hl]; omega), List.getElem?_append_right (by rw [hl]; omega), hl]
    simp only [show (i + 1) * 4 - 4 = i * 4 by omega, show (i + 1) * 4 + 1 - 4 = i * 4 + 1 by omega, show (i + 1) * 4 + 2 - 4 = i * 4 + 2 by omega, show (i + 1) * 4 + 3 - 4 = i * 4 + 3 by omega, List.getElem_cons_succ]
    exact hi

def awakeToks : List Tk := [⟨4, [112, 114, 111, 99, 116, 121, 112, 101], 0, 0⟩, ⟨1, [80, 49], 0, 9⟩, ⟨4, [40], 0, 11⟩, ⟨4, [41], 0, 12⟩, ⟨4, [123], 0, 14⟩, ⟨1, [113], 0, 16⟩, ⟨4, [33, 33], 0, 17⟩, ⟨1, [120], 0, 19⟩, ⟨4, [125], 0, 29⟩]
theorem awake_ok : tokensOf ⟨#[112, 114, 111, 99, 116, 121, 112, 101, 32, 80, 49, 40, 41, 32, 123, 32, 113, 33, 33, 120, 32, 47, 42, 32, 97, 32, 42, 47, 32, 125]⟩ = .ok awakeToks := by kernel_rfl

set_option maxHeartbeats 4000000 in
set_option maxRecDepth 100000 in
theorem lawAwake (m : Int) (w : World) (hm : w.cell? ⟨1, 0, none⟩ = some (.int .i64 m)) (h1 : 1 < w.heap.size) (htab : Lib.TabIs Tryd.prog w "strings.asciiSpace" .u8 Lib.asciiSpaceTab) :
    Calls Tryd.prog 9 #[] w fun e w' => e = .returned (.bool true) ∧ Below w.heap.size w w' := by
  go_enter Tryd.func9, Tryd.ntmps9
  go_wp2_with (fail)
  refine (lexTokens _ m _ hm h1 htab).mono ?_
  rintro e w2 ⟨hb, hp⟩
  rw [awake_ok] at hp
  obtain ⟨v, rfl, ho⟩ := hp
  obtain ⟨g, cap, rfl, hg, hgl, hcap, hcm, hcs, hfz⟩ := owns_some ho (by decide)
  have hB := hb.alloc hb.size (.cells #[.int .i64 0, .int .i64 0] 26)
  have e0 : w2.cell? ⟨g, 0, none⟩ = some (.int .i64 4) := (hcs 0 (by decide)).trans rfl
  have e1 : w2.cell? ⟨g, 4, none⟩ = some (.int .i64 1) := (hcs 4 (by decide)).trans rfl
  have e6 : w2.cell? ⟨g, 25, none⟩ = some (.string ⟨#[33, 33]⟩) := (hcs 25 (by decide)).trans rfl
  have e7 : w2.cell? ⟨g, 31, none⟩ = some (.int .i64 19) := (hcs 31 (by decide)).trans rfl
  rw [show awakeToks.length = 9 from rfl] at hcap ⊢
  clear hcs hfz ho hm htab
  unfold mish
  go_wp2
  go_ret
  exact ⟨rfl, hB⟩
end Go.Proofs.YtndcbbhfhcjadaaDoor
