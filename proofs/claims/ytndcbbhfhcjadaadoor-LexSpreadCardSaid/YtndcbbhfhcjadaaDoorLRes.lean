/- The walk of lex.Reserved, and what it tells, in plain words. -/
import Derived.Test.YtndcbbhfhcjadaaDoorRTok
import Derived.Test.YtndcbbhfhcjadaaDoorShelf
import Derived.Lib.IndexMore
import Derived.Lib.IndexAny
namespace Go.Proofs.YtndcbbhfhcjadaaDoor
open Go.RowKit

/-- Words, each with a blank ahead, and a blank at the end. -/
def spaced : List Bs → Bs
  | [] => [32]
  | w :: r => 32 :: (w ++ spaced r)

theorem spaced_head : ∀ ws : List Bs, ∃ r, spaced ws = 32 :: r
  | [] => ⟨[], rfl⟩
  | w :: r => ⟨w ++ spaced r, rfl⟩

theorem prefix_eq : ∀ (l w r t : Bs), ¬ 32 ∈ l → ¬ 32 ∈ w → t = 32 :: r → List.isPrefixOf (l ++ [32]) (w ++ t) = (l == w)
  | [], [], r, _, _, _, rfl => by simp [List.isPrefixOf]
  | [], b :: w, r, _, _, h, rfl => by
    simp at h
    simp [List.isPrefixOf, h.1]
  | a :: l, [], r, _, h, _, rfl => by
    simp at h
    simp [List.isPrefixOf, Ne.symm h.1]
  | a :: l, b :: w, r, t, h, h', ht => by
    simp at h h'
    have := prefix_eq l w r t h.2 h'.2 ht
    simp [List.isPrefixOf, this]

theorem contains_cons (b : UInt8) (l p : Bs) : Lib.contains (b :: l) p = (List.isPrefixOf p (b :: l) || Lib.contains l p) := by
  unfold Lib.contains
  rw [Lib.index]
  have hg := Lib.index_ge l p
  by_cases h : List.isPrefixOf p (b :: l) = true
  · rw [if_pos h, h]; simp
  · rw [if_neg h, eq_false_of_ne_true h]
    by_cases h1 : Lib.index l p = -1
    · rw [h1]; simp
    · have h2 : (Lib.index l p == -1) = false := by simpa using h1
      rw [h2]
      simp
      omega

theorem contains_skip (p : Bs) : ∀ (w t : Bs), ¬ 32 ∈ w → Lib.contains (w ++ t) (32 :: p) = Lib.contains t (32 :: p)
  | [], _, _ => rfl
  | b :: w, t, h => by
    simp at h
    rw [List.cons_append, contains_cons, contains_skip p w t h.2]
    have : List.isPrefixOf (32 :: p) (b :: (w ++ t)) = false := by simp [List.isPrefixOf, h.1]
    rw [this]; rfl

theorem contains_spaced (l : Bs) (hl : ¬ 32 ∈ l) (h0 : l ≠ []) : ∀ ws : List Bs, (∀ w ∈ ws, ¬ 32 ∈ w) → Lib.contains (spaced ws) (32 :: (l ++ [32])) = ws.contains l
  | [], _ => by
    cases l with
    | nil => exact absurd rfl h0
    | cons a l => simp [spaced, Lib.contains, Lib.index, List.isPrefixOf]
  | w :: r, h => by
    obtain ⟨q, hq⟩ := spaced_head r
    have hw := h w (List.mem_cons_self ..)
    rw [spaced, contains_cons, contains_skip _ _ _ hw, contains_spaced l hl h0 r fun w hw => h w (List.mem_cons_of_mem _ hw)]
    have := prefix_eq l w q (spaced r) hl hw hq
    rw [List.contains_cons, List.isPrefixOf, this]
    rfl

/-- The signs, in the code's order. -/
def signs : List Bs := twos ++ [[123], [125], [40], [41], [91], [93], [59], [44], [58], [46], [33], [63], [61], [60], [62], [43], [45], [42], [47], [37], [38], [124], [94], [126], [64]]

/-- What is reserved. -/
def isRes (l : Bs) : Bool := names.contains l || signs.contains l

theorem spaced_names : spaced names = [32, 97, 99, 116, 105, 118, 101, 32, 97, 115, 115, 101, 114, 116, 32, 97, 116, 111, 109, 105, 99, 32, 98, 105, 116, 32, 98, 111, 111, 108, 32, 98, 114, 101, 97, 107, 32, 98, 121, 116, 101, 32, 99, 104, 97, 110, 32, 100, 95, 115, 116, 101, 112, 32, 100, 111, 32, 101, 108, 115, 101, 32, 101, 109, 112, 116, 121, 32, 101, 118, 97, 108, 32, 102, 97, 108, 115, 101, 32, 102, 105, 32, 102, 117, 108, 108, 32, 103, 111, 116, 111, 32, 105, 102, 32, 105, 110, 105, 116, 32, 105, 110, 108, 105, 110, 101, 32, 105, 110, 116, 32, 108, 101, 110, 32, 108, 116, 108, 32, 109, 116, 121, 112, 101, 32, 110, 101, 109, 112, 116, 121, 32, 110, 101, 118, 101, 114, 32, 110, 102, 117, 108, 108, 32, 110, 112, 95, 32, 111, 100, 32, 111, 102, 32, 112, 105, 100, 32, 112, 114, 105, 110, 116, 102, 32, 112, 114, 111, 99, 116, 121, 112, 101, 32, 114, 117, 110, 32, 115, 104, 111, 114, 116, 32, 115, 107, 105, 112, 32, 116, 105, 109, 101, 111, 117, 116, 32, 116, 114, 117, 101, 32, 116, 121, 112, 101, 100, 101, 102, 32, 117, 110, 108, 101, 115, 115, 32, 95, 32, 95, 112, 105, 100, 32, 95, 110, 114, 95, 112, 114, 32] := by decide +kernel
theorem spaced_signs : spaced signs = [32, 58, 58, 32, 33, 33, 32, 63, 63, 32, 61, 61, 32, 33, 61, 32, 60, 61, 32, 62, 61, 32, 60, 60, 32, 62, 62, 32, 38, 38, 32, 124, 124, 32, 43, 43, 32, 45, 45, 32, 45, 62, 32, 123, 32, 125, 32, 40, 32, 41, 32, 91, 32, 93, 32, 59, 32, 44, 32, 58, 32, 46, 32, 33, 32, 63, 32, 61, 32, 60, 32, 62, 32, 43, 32, 45, 32, 42, 32, 47, 32, 37, 32, 38, 32, 124, 32, 94, 32, 126, 32, 64, 32] := by decide +kernel
theorem names_clean : ∀ w ∈ names, ¬ 32 ∈ w := by decide +kernel
theorem signs_clean : ∀ w ∈ signs, ¬ 32 ∈ w := by decide +kernel

theorem isRes_blank {l : Bs} (h : 32 ∈ l) : isRes l = false := by
  unfold isRes
  rw [Bool.or_eq_false_iff]
  constructor
  · cases hc : names.contains l with
    | false => rfl
    | true => exact absurd h (names_clean l (List.elem_iff.1 hc))
  · cases hc : signs.contains l with
    | false => rfl
    | true => exact absurd h (signs_clean l (List.elem_iff.1 hc))
theorem isRes_nil : isRes [] = false := by decide +kernel

theorem blank_byte {l : Bs} : decide (0 ≤ Lib.indexByte l 32) = l.contains 32 := (Lib.contains_iff_indexByte l 32).symm

set_option maxRecDepth 100000 in
theorem lexReserved (s : ByteArray) (m : Int) (hs : s.size < 4294967000) (w : World) (hm : w.cell? ⟨1, 0, none⟩ = some (.int .i64 m)) :
    Calls Tryd.prog 12 #[.string s] w fun e w' => e = .returned (.bool (isRes s.data.toList)) ∧ w' = w := by
  have hl : s.toList = s.data.toList := ByteArray.toList_eq s
  have HL := Lib.hid hl
  clear hl
  go_enter Tryd.func12, Tryd.ntmps12
  by_cases h0 : s.toList = []
  · go_wp2
    go_ret
    rw [← HL.out, h0, isRes_nil]
    exact ⟨rfl, rfl⟩
  · have h2 : s.data.toList ≠ [] := by rw [← HL.out]; exact h0
    go_wp2_with (fail)
    refine (Tryd.strings_Contains_one _ _ _).mono ?_
    rintro e w ⟨rfl, rfl⟩
    rw [blank_byte]
    by_cases hb : s.data.toList.contains 32 = true
    · have hr := isRes_blank (List.elem_iff.1 hb)
      rw [hb]
      go_wp2
      go_ret
      rw [hr]
      exact ⟨rfl, rfl⟩
    · have hb' := eq_false_of_ne_true hb
      have hn : ¬ 32 ∈ s.data.toList := fun h => hb (List.elem_iff.2 h)
      have e1 := contains_spaced _ hn h2 names names_clean
      have e2 := contains_spaced _ hn h2 signs signs_clean
      have E1 := Lib.hid e1
      have E2 := Lib.hid e2
      clear hb hn e1 e2
      rw [hb']
      go_wp2_with (fail)
      refine (Tryd.strings_Contains _ _ m _ (by decide) hm).mono ?_
      rintro e w ⟨rfl, rfl⟩
      have hsub : ((⟨#[32]⟩ : ByteArray) ++ s ++ ⟨#[32]⟩).data.toList = 32 :: (s.data.toList ++ [32]) := by simp
      rw [hsub]
      have e1 := E1.out
      rw [show spaced names = _ from spaced_names] at e1
      rw [e1]
      have hsub' := Lib.hid hsub
      clear hsub e1
      by_cases hn : names.contains s.data.toList = true
      · rw [hn]
        go_wp2
        go_ret
        refine ⟨congrArg (fun b => Ending.returned (Value.bool b)) (?_ : (!s.toList.isEmpty) = isRes s.data.toList), rfl⟩
        unfold isRes
        rw [hn]
        simp [h0]
      · have hn' := eq_false_of_ne_true hn
        rw [hn']
        have HN := Lib.hid hn'
        clear hn hn'
        go_wp2_with (fail)
        refine (Tryd.strings_Contains _ _ m _ (by decide) hm).mono ?_
        rintro e w ⟨rfl, rfl⟩
        have e2 := E2.out
        rw [show spaced signs = _ from spaced_signs] at e2
        rw [hsub'.out, e2]
        clear e2
        go_wp2
        go_ret
        refine ⟨congrArg (fun b => Ending.returned (Value.bool b)) (?_ : (!s.toList.isEmpty && decide (s.data.toList ∈ signs)) = isRes s.data.toList), rfl⟩
        unfold isRes
        rw [HN.out]
        simp [h0]
end Go.Proofs.YtndcbbhfhcjadaaDoor
