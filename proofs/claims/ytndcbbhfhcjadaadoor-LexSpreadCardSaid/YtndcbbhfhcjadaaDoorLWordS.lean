/- The walk of (*lex.scanner).word where a text or another byte begins, and all together. (Printed by mklword.py.) -/
import Derived.Test.YtndcbbhfhcjadaaDoorLWordD
import Derived.Test.YtndcbbhfhcjadaaDoorRWordS
namespace Go.Proofs.YtndcbbhfhcjadaaDoor
open Go.RowKit
set_option linter.unusedVariables false

/-- The first of the words that begins l. -/
def firstOf (ws : List Bs) (l : Bs) : Res (Tk × Nat) :=
  match ws.find? fun x => x.isPrefixOf l with
  | some x => .ok (⟨4, x, 0, 0⟩, x.length)
  | none => .bad 20 0

theorem find_twos (c d : UInt8) (r : Bs) : ∀ ws : List Bs, (∀ x ∈ ws, x.length = 2) → ws.find? (fun x => x.isPrefixOf (c :: d :: r)) = if ws.contains [c, d] then some [c, d] else none
  | [], _ => by simp
  | x :: ws, h => by
    have ih := find_twos c d r ws fun y hy => h y (List.mem_cons_of_mem _ hy)
    have hx := h x (List.mem_cons_self ..)
    match x, hx with
    | [a, b], _ =>
      rw [List.find?_cons, List.contains_cons, ih]
      have hp : List.isPrefixOf [a, b] (c :: d :: r) = ([c, d] == [a, b]) := by
        rw [Bool.eq_iff_iff]; simp [List.isPrefixOf]; constructor <;> (rintro ⟨rfl, rfl⟩; exact ⟨rfl, rfl⟩)
      rw [hp]
      by_cases he : ([c, d] == [a, b]) = true
      · rw [he]
        have := eq_of_beq he
        simp [this]
      · rw [eq_false_of_ne_true he]; rfl
theorem find_twos_one (c : UInt8) : ∀ ws : List Bs, (∀ x ∈ ws, x.length = 2) → ws.find? (fun x => x.isPrefixOf [c]) = none
  | [], _ => rfl
  | x :: ws, h => by
    have ih := find_twos_one c ws fun y hy => h y (List.mem_cons_of_mem _ hy)
    have hx := h x (List.mem_cons_self ..)
    match x, hx with
    | [a, b], _ =>
      rw [List.find?_cons, ih]
      simp [List.isPrefixOf]
theorem find_ones (c : UInt8) (r : Bs) : ∀ ns : Bs, (ns.map fun n => [n]).find? (fun x => x.isPrefixOf (c :: r)) = if ns.contains c then some [c] else none
  | [] => by simp
  | n :: ns => by
    rw [List.map_cons, List.find?_cons, List.contains_cons, find_ones c r ns]
    have hp : List.isPrefixOf [n] (c :: r) = (c == n) := by rw [Bool.eq_iff_iff]; simp [List.isPrefixOf]; exact ⟨fun h => h.symm, fun h => h.symm⟩
    rw [hp]
    by_cases he : (c == n) = true
    · rw [he]
      have := eq_of_beq he
      simp [this]
    · rw [eq_false_of_ne_true he]; rfl

def oneBytes : Bs := [123, 125, 40, 41, 91, 93, 59, 44, 58, 46, 33, 63, 61, 60, 62, 43, 45, 42, 47, 37, 38, 124, 94, 126, 64]
theorem isOne_bytes (c : UInt8) : isOne c.toNat = oneBytes.contains c := by
  have : ∀ n : Fin 256, isOne n.val = oneBytes.contains (UInt8.ofNat n.val) := by decide +kernel
  have h := this ⟨c.toNat, c.toNat_lt⟩
  simpa using h
theorem signs_eq : signs = twos ++ oneBytes.map fun n => [n] := rfl
theorem twos_two : ∀ x ∈ twos, x.length = 2 := by decide +kernel

theorem sign_first : ∀ l : Bs, sign 0 l = firstOf signs l
  | [] => by decide +kernel
  | [c] => by
    unfold firstOf
    rw [signs_eq, List.find?_append, find_twos_one c _ twos_two, find_ones, sign, isOne_bytes]
    by_cases h : oneBytes.contains c = true
    · rw [if_pos h, if_pos h]; rfl
    · rw [if_neg h, if_neg h]; rfl
  | c :: d :: r => by
    unfold firstOf
    rw [signs_eq, List.find?_append, find_twos c d r _ twos_two, find_ones, sign, isOne_bytes]
    by_cases h2 : twos.contains [c, d] = true
    · rw [if_pos h2, if_pos h2]; rfl
    · rw [if_neg h2, if_neg h2]
      by_cases h : oneBytes.contains c = true
      · rw [if_pos h, if_pos h]; rfl
      · rw [if_neg h, if_neg h]; rfl

theorem first_hit {ws : List Bs} {l x : Bs} {k : Nat} (hx : ws[k]? = some x) (hp : x.isPrefixOf l = true) : firstOf (ws.drop k) l = .ok (⟨4, x, 0, 0⟩, x.length) := by
  have hk : k < ws.length := (List.getElem?_eq_some_iff.1 hx).1
  have he : ws[k] = x := (List.getElem?_eq_some_iff.1 hx).2
  unfold firstOf
  rw [List.drop_eq_getElem_cons hk, List.find?_cons, he, hp]
theorem first_miss {ws : List Bs} {l x : Bs} {k : Nat} (hx : ws[k]? = some x) (hp : x.isPrefixOf l = false) : firstOf (ws.drop k) l = firstOf (ws.drop (k + 1)) l := by
  have hk : k < ws.length := (List.getElem?_eq_some_iff.1 hx).1
  have he : ws[k] = x := (List.getElem?_eq_some_iff.1 hx).2
  unfold firstOf
  rw [List.drop_eq_getElem_cons hk, List.find?_cons, he, hp]
theorem first_end {ws : List Bs} {l : Bs} {k : Nat} (h : ws.length ≤ k) : firstOf (ws.drop k) l = .bad 20 0 := by
  unfold firstOf
  rw [List.drop_eq_nil_of_le h]; rfl

def scells (ws : List Bs) : List Value := ws.map fun l => Value.string ⟨l.toArray⟩
theorem scells_at {ws : List Bs} {k : Nat} {x : Bs} (h : ws[k]? = some x) : (scells ws)[k]? = some (.string ⟨x.toArray⟩) := by simp [scells, h]
theorem fields_signs : Lib.fields [58, 58, 32, 33, 33, 32, 63, 63, 32, 61, 61, 32, 33, 61, 32, 60, 61, 32, 62, 61, 32, 60, 60, 32, 62, 62, 32, 38, 38, 32, 124, 124, 32, 43, 43, 32, 45, 45, 32, 45, 62, 32, 123, 32, 125, 32, 40, 32, 41, 32, 91, 32, 93, 32, 59, 32, 44, 32, 58, 32, 46, 32, 33, 32, 63, 32, 61, 32, 60, 32, 62, 32, 43, 32, 45, 32, 42, 32, 47, 32, 37, 32, 38, 32, 124, 32, 94, 32, 126, 32, 64] = signs := by decide +kernel
theorem ascii_signs : ∀ (j : Nat) (b : UInt8), ([58, 58, 32, 33, 33, 32, 63, 63, 32, 61, 61, 32, 33, 61, 32, 60, 61, 32, 62, 61, 32, 60, 60, 32, 62, 62, 32, 38, 38, 32, 124, 124, 32, 43, 43, 32, 45, 45, 32, 45, 62, 32, 123, 32, 125, 32, 40, 32, 41, 32, 91, 32, 93, 32, 59, 32, 44, 32, 58, 32, 46, 32, 33, 32, 63, 32, 61, 32, 60, 32, 62, 32, 43, 32, 45, 32, 42, 32, 47, 32, 37, 32, 38, 32, 124, 32, 94, 32, 126, 32, 64] : Bs)[j]? = some b → b.toNat < 128 := fun j b h =>
  (show ∀ b ∈ ([58, 58, 32, 33, 33, 32, 63, 63, 32, 61, 61, 32, 33, 61, 32, 60, 61, 32, 62, 61, 32, 60, 60, 32, 62, 62, 32, 38, 38, 32, 124, 124, 32, 43, 43, 32, 45, 45, 32, 45, 62, 32, 123, 32, 125, 32, 40, 32, 41, 32, 91, 32, 93, 32, 59, 32, 44, 32, 58, 32, 46, 32, 33, 32, 63, 32, 61, 32, 60, 32, 62, 32, 43, 32, 45, 32, 42, 32, 47, 32, 37, 32, 38, 32, 124, 32, 94, 32, 126, 32, 64] : Bs), b.toNat < 128 by decide +kernel) b (List.mem_of_getElem? h)
theorem tab_at : Tryd.prog.globalNamed "strings.asciiSpace" = some 0 := by kernel_rfl
theorem tab_same {w w' : World} (h : Lib.TabIs Tryd.prog w "strings.asciiSpace" .u8 Lib.asciiSpaceTab) (e : w'.heap[0]? = w.heap[0]?) : Lib.TabIs Tryd.prog w' "strings.asciiSpace" .u8 Lib.asciiSpaceTab := by
  unfold Lib.TabIs World.var? at h ⊢
  rw [tab_at] at h ⊢
  simp only [Option.bind_some] at h ⊢
  rw [e]; exact h
theorem signs_len : signs.length = 39 := by decide +kernel
theorem signsRow (w : World) (htab : Lib.TabIs Tryd.prog w "strings.asciiSpace" .u8 Lib.asciiSpaceTab) :
    Calls Tryd.prog 32 #[.string ⟨#[58, 58, 32, 33, 33, 32, 63, 63, 32, 61, 61, 32, 33, 61, 32, 60, 61, 32, 62, 61, 32, 60, 60, 32, 62, 62, 32, 38, 38, 32, 124, 124, 32, 43, 43, 32, 45, 45, 32, 45, 62, 32, 123, 32, 125, 32, 40, 32, 41, 32, 91, 32, 93, 32, 59, 32, 44, 32, 58, 32, 46, 32, 33, 32, 63, 32, 61, 32, 60, 32, 62, 32, 43, 32, 45, 32, 42, 32, 47, 32, 37, 32, 38, 32, 124, 32, 94, 32, 126, 32, 64]⟩] w fun e w' => e = .returned (.slice (some ⟨w.heap.size, 0, none⟩) 39 39) ∧ Holds w' w.heap.size 9 (scells signs) ∧ Below w.heap.size w w' := by
  refine (Tryd.strings_Fields _ _ (by decide) ascii_signs htab).mono ?_
  rintro e w2 ⟨rfl, rfl⟩
  rw [show Lib.fields (ByteArray.mk #[58, 58, 32, 33, 33, 32, 63, 63, 32, 61, 61, 32, 33, 61, 32, 60, 61, 32, 62, 61, 32, 60, 60, 32, 62, 62, 32, 38, 38, 32, 124, 124, 32, 43, 43, 32, 45, 45, 32, 45, 62, 32, 123, 32, 125, 32, 40, 32, 41, 32, 91, 32, 93, 32, 59, 32, 44, 32, 58, 32, 46, 32, 33, 32, 63, 32, 61, 32, 60, 32, 62, 32, 43, 32, 45, 32, 42, 32, 47, 32, 37, 32, 38, 32, 124, 32, 94, 32, 126, 32, 64]).data.toList = signs from fields_signs, signs_len]
  have h1 : Holds (w.alloc (.cells (scells signs).toArray 9)) w.heap.size 9 (scells signs) := Holds.new w 9 (scells signs).toArray
  have h2 : Below w.heap.size w (w.alloc (.cells (scells signs).toArray 9)) := (Below.refl _ _).alloc (Nat.le_refl _) _
  exact ⟨rfl, h1, h2⟩

set_option maxHeartbeats 8000000 in
set_option maxRecDepth 100000 in
theorem lexWordQ (s r : ByteArray) (i X : Nat) (m : Int) (hi : i < s.size) (hs : s.size ≤ 65536) (hr : s.extract i s.size = r) (hz : 0 < r.size) (w : World) (hX : 1 < X) (hS : Holds w X 41 [.string s, .int .i64 i])
    (hm : w.cell? ⟨1, 0, none⟩ = some (.int .i64 m)) (h1 : 1 < w.heap.size) (hL : ltr r[0].toNat = false) (hD : dig r[0].toNat = false) (hq : (r[0] == 34) = true) :
    Calls Tryd.prog 16 #[.pointer (some ⟨X, 0, none⟩)] w (LTokPost i (word 0 (rest r 0)) w) := by
  have hir : i + r.size = s.size := by rw [← hr, ByteArray.size_extract]; omega
  have hC := Lib.hid fun w hS => lexQuoted r s i X hir hz hs w hS
  have hrl : r.size ≤ 65536 := by omega
  obtain ⟨R, hR⟩ : ∃ R, R = word 0 (rest r 0) := ⟨_, rfl⟩
  rw [← hR]
  have HR := Lib.hid hR
  clear hR
  have hXl := hS.lt
  have y0 := hS.cell 0
  have y1 := hS.cell 1
  simp at y0 y1
  obtain ⟨hT, hM, hB⟩ := laid34 w 33 #[.int .i64 0, .string ⟨#[]⟩, .int .i64 0, .int .i64 0] #[.int .i64 0, .int .i64 0]
  have hSr := hS.below hB hXl
  have hmr := (Holds.same (hB.block 1 h1) 0).trans hm
  go_enter Tryd.func16, Tryd.ntmps16
  go_wp2
  go_quiet (fail)
  replace hT := hT.drewN nq
  replace hM := hM.drewN nq
  replace hSr := hSr.drewN nq
  replace hB := below_drewN' hB nq
  replace hmr := drewN_cell hmr nq
  generalize (((w.alloc (.cells #[.int .i64 0, .string ⟨#[]⟩, .int .i64 0, .int .i64 0] 33)).alloc (.cells #[.int .i64 0, .int .i64 0] 26)).drewN nq) = wr at hT hM hB hSr hmr ⊢
  clear hm y0 y1
  have HQ := Lib.hid (word_quo hz hL hD hq)
  have hq' := (u8i r[0] 34).trans hq
  change ((r[0].toNat : Int) == 34) = true at hq'
  clear hq hr hmr
  go_wp2_with (first | (go_at_call 27; refine (lexLetter _ (UInt8.toNat_lt _) _).mono ?_; rintro e w1 ⟨rfl, rfl⟩) | (go_at_call 30; refine (lexDigit _ _).mono ?_; rintro e w1 ⟨rfl, rfl⟩) | fail)
  refine (hC.out _ hSr).mono ?_
  rintro e w2 ⟨hb2, hp⟩
  replace hT := hT.belowAll hb2
  replace hM := hM.belowAll hb2
  replace hSr := hSr.belowAll hb2
  replace hB := hB.trans (hb2.mono hB.size)
  have c0 := hT.cell 0
  have c1 := hT.cell 1
  have c2 := hT.cell 2
  have c3 := hT.cell 3
  have d0 := hM.cell 0
  have d1 := hM.cell 1
  have f0 := hT.free 0
  have f1 := hT.free 1
  have f2 := hT.free 2
  have f3 := hT.free 3
  have g0 := hM.free 0
  have g1 := hM.free 1
  have x0 := hSr.cell 0
  have x1 := hSr.cell 1
  simp at c0 c1 c2 c3 d0 d1 x0 x1
  generalize hG : quoRes 0 (quo 1 [] (rest r 1)) = G at hp HQ
  cases G with
  | bad c a =>
    simp only at hp
    subst hp
    unfold tok mish
    go_wp2
    obtain ⟨j1, j2, j3⟩ := six hT hM hB (.int .i64 0) (.string ⟨#[]⟩) (.int .i64 0) (.int .i64 0) (.int .i64 (c : Nat)) (.int .i64 ((i + a : Nat) : Int))
    exact bodyPost_ret (out16 j1 j2 rfl rfl) rfl ⟨j3, by rw [HR.out, HQ.out]; rfl⟩
  | ok q =>
    obtain ⟨t, k⟩ := q
    simp only at hp
    subst hp
    unfold tok mish
    go_wp2
    obtain ⟨j1, j2, j3⟩ := six hT hM hB (.int .i64 (t.kind : Nat)) (.string ⟨t.text.toArray⟩) (.int .i64 (t.num : Nat)) (.int .i64 0) (.int .i64 0) (.int .i64 0)
    exact bodyPost_ret (out16 j1 j2 rfl rfl) rfl ⟨j3, by rw [HR.out, HQ.out]; rfl⟩

set_option maxHeartbeats 8000000 in
set_option maxRecDepth 100000 in
theorem lexWordS (s r : ByteArray) (i X : Nat) (m : Int) (hi : i < s.size) (hs : s.size ≤ 65536) (hr : s.extract i s.size = r) (hz : 0 < r.size) (w : World) (hX : 1 < X) (hS : Holds w X 41 [.string s, .int .i64 i])
    (hm : w.cell? ⟨1, 0, none⟩ = some (.int .i64 m)) (h1 : 1 < w.heap.size) (htab : Lib.TabIs Tryd.prog w "strings.asciiSpace" .u8 Lib.asciiSpaceTab) (hL : ltr r[0].toNat = false) (hD : dig r[0].toNat = false) (hq : (r[0] == 34) = false) :
    Calls Tryd.prog 16 #[.pointer (some ⟨X, 0, none⟩)] w (LTokPost i (word 0 (rest r 0)) w) := by
  have hrl : r.size ≤ 65536 := by rw [← hr, ByteArray.size_extract]; omega
  obtain ⟨R, hR⟩ : ∃ R, R = word 0 (rest r 0) := ⟨_, rfl⟩
  rw [← hR]
  have HR := Lib.hid hR
  clear hR
  have hXl := hS.lt
  have y0 := hS.cell 0
  have y1 := hS.cell 1
  simp at y0 y1
  obtain ⟨hT, hM, hB⟩ := laid34 w 33 #[.int .i64 0, .string ⟨#[]⟩, .int .i64 0, .int .i64 0] #[.int .i64 0, .int .i64 0]
  have hSr := hS.below hB hXl
  have hmr := (Holds.same (hB.block 1 h1) 0).trans hm
  go_enter Tryd.func16, Tryd.ntmps16
  go_wp2
  go_quiet (fail)
  replace hT := hT.drewN nq
  replace hM := hM.drewN nq
  replace hSr := hSr.drewN nq
  replace hB := below_drewN' hB nq
  replace hmr := drewN_cell hmr nq
  generalize (((w.alloc (.cells #[.int .i64 0, .string ⟨#[]⟩, .int .i64 0, .int .i64 0] 33)).alloc (.cells #[.int .i64 0, .int .i64 0] 26)).drewN nq) = wr at hT hM hB hSr hmr ⊢
  clear hm y0 y1
  have hws := (word_other hz hL hD hq).trans (sign_first _)
  have HQ : Hid (R = firstOf (signs.drop 0) (rest r 0)) := by show _ = _; rw [HR.out]; exact hws
  have hq' := (u8i r[0] 34).trans hq
  change ((r[0].toNat : Int) == 34) = false at hq'
  clear hq hr hmr hws
  have htab' := tab_same htab (hB.block 0 (Nat.lt_trans Nat.zero_lt_one h1))
  clear htab
  go_wp2_with (first | (go_at_call 27; refine (lexLetter _ (UInt8.toNat_lt _) _).mono ?_; rintro e w1 ⟨rfl, rfl⟩) | (go_at_call 30; refine (lexDigit _ _).mono ?_; rintro e w1 ⟨rfl, rfl⟩) | fail)
  refine (signsRow _ htab').mono ?_
  rintro e w2 ⟨rfl, hH, hb2⟩
  replace hT := hT.belowAll hb2
  replace hM := hM.belowAll hb2
  replace hSr := hSr.belowAll hb2
  replace hB := hB.trans (hb2.mono hB.size)
  clear hb2 htab'
  generalize w1.heap.size = F at hH ⊢
  go_wp2
  go_loopw [130] (fun n wr => ∃ k : Nat, n = .int .i64 (k : Int) ∧ k ≤ 39 ∧ Hid (R = firstOf (signs.drop k) (rest r 0)) ∧ Holds wr F 9 (scells signs) ∧ Holds wr w.heap.size 33 [.int .i64 0, .string ⟨#[]⟩, .int .i64 0, .int .i64 0] ∧ Holds wr (w.heap.size + 1) 26 [.int .i64 0, .int .i64 0] ∧ Holds wr X 41 [.string s, .int .i64 i] ∧ Below w.heap.size w wr) (fun n _ => (50 - intOf n).toNat)
  case atStart => exact ⟨0, rfl, by omega, HQ, hH, hT, hM, hSr, hB⟩
  case round =>
    clear hT hM hSr hB hH HQ
    obtain ⟨k, rfl, hk, HQ, hH, hT, hM, hSr, hB⟩ := hrel
    by_cases hl : k < 39
    · obtain ⟨x, hx⟩ : ∃ x, signs[k]? = some x := ⟨_, List.getElem?_eq_getElem (by rw [signs_len]; exact hl)⟩
      have hc := (hH.cell k).trans (scells_at hx)
      have hk39 : (k : Int) < 39 := by omega
      have HX := Lib.hid hx
      clear hx
      go_wp2_with (fail)
      refine (Tryd.strings_HasPrefix _ _ _).mono ?_
      rintro e wr ⟨rfl, rfl⟩
      have hpre : Lib.hasPrefix r.data.toList (ByteArray.mk x.toArray).data.toList = x.isPrefixOf (rest r 0) := by unfold Lib.hasPrefix rest; simp
      rw [hpre]
      clear hpre
      by_cases hp : x.isPrefixOf (rest r 0) = true
      · rw [hp]
        have HW : Hid (R = .ok (⟨4, x, 0, 0⟩, x.length)) := by show _ = _; rw [HQ.out]; exact first_hit HX.out hp
        have hxl : x.length ≤ 2 := by
          have := HX.out
          have h39 : ∀ y ∈ signs, y.length ≤ 2 := by decide +kernel
          exact h39 x (List.mem_of_getElem? this)
        clear hp
        have hsz : (ByteArray.mk x.toArray).size = x.length := by show x.toArray.size = _; simp
  
        have c0 := hT.cell 0
        have c1 := hT.cell 1
        have c2 := hT.cell 2
        have c3 := hT.cell 3
        have d0 := hM.cell 0
        have d1 := hM.cell 1
        have f0 := hT.free 0
        have f1 := hT.free 1
        have f2 := hT.free 2
        have f3 := hT.free 3
        have g0 := hM.free 0
        have g1 := hM.free 1
        have x0 := hSr.cell 0
        have x1 := hSr.cell 1
        simp at c0 c1 c2 c3 d0 d1 x0 x1
        go_wp2
        obtain ⟨j1, j2, j3⟩ := six hT hM hB (.int .i64 4) (.string ⟨x.toArray⟩) (.int .i64 0) (.int .i64 0) (.int .i64 0) (.int .i64 0)
        exact bodyPost_ret (out16 j1 j2 rfl rfl) rfl ⟨j3, by rw [HW.out]; rfl⟩
      · have hp' := eq_false_of_ne_true hp
        rw [hp']
        have HW : Hid (R = firstOf (signs.drop (k + 1)) (rest r 0)) := by show _ = _; rw [HQ.out]; exact first_miss HX.out hp'
        clear hp hp'
        go_wp2
        exact ⟨⟨k + 1, rfl, by omega, HW, hH, hT, hM, hSr, hB⟩, by simp [intOf]; omega⟩
    · have hl' : decide ((k : Int) < 39) = false := by simp; omega
      have HW : Hid (R = .bad 20 0) := by show _ = _; rw [HQ.out]; exact first_end (by rw [signs_len]; omega)
      clear HQ
      have c0 := hT.cell 0
      have c1 := hT.cell 1
      have c2 := hT.cell 2
      have c3 := hT.cell 3
      have d0 := hM.cell 0
      have d1 := hM.cell 1
      have f0 := hT.free 0
      have f1 := hT.free 1
      have f2 := hT.free 2
      have f3 := hT.free 3
      have g0 := hM.free 0
      have g1 := hM.free 1
      have x0 := hSr.cell 0
      have x1 := hSr.cell 1
      simp at c0 c1 c2 c3 d0 d1 x0 x1
      go_wp2_with (first | (go_at_call 27; refine (lexLetter _ (UInt8.toNat_lt _) _).mono ?_; rintro e w1 ⟨rfl, rfl⟩) | (go_at_call 30; refine (lexDigit _ _).mono ?_; rintro e w1 ⟨rfl, rfl⟩) | fail)
      refine (wordBad 20 i _).mono ?_
      rintro e w2 ⟨rfl, hb2⟩
      clear c0 c1 c2 c3 d0 d1 f0 f1 f2 f3 g0 g1 x0 x1
      replace hT := hT.belowAll hb2
      replace hM := hM.belowAll hb2
      replace hSr := hSr.belowAll hb2
      replace hB := hB.trans (hb2.mono hB.size)
      have c0 := hT.cell 0
      have c1 := hT.cell 1
      have c2 := hT.cell 2
      have c3 := hT.cell 3
      have d0 := hM.cell 0
      have d1 := hM.cell 1
      have f0 := hT.free 0
      have f1 := hT.free 1
      have f2 := hT.free 2
      have f3 := hT.free 3
      have g0 := hM.free 0
      have g1 := hM.free 1
      have x0 := hSr.cell 0
      have x1 := hSr.cell 1
      simp at c0 c1 c2 c3 d0 d1 x0 x1
      unfold tok mish
      go_wp2
      obtain ⟨j1, j2, j3⟩ := six hT hM hB (.int .i64 0) (.string ⟨#[]⟩) (.int .i64 0) (.int .i64 0) (.int .i64 (20 : Nat)) (.int .i64 (i : Nat))
      exact bodyPost_ret (out16 j1 j2 rfl rfl) rfl ⟨j3, by rw [HW.out]; rfl⟩

theorem rest_zero (s : ByteArray) : rest s 0 = s.data.toList := by simp [rest]
theorem rest_extract (s : ByteArray) (i : Nat) : rest (s.extract i s.size) 0 = rest s i := by rw [rest_zero, rest_bytes]

/-- The walk of the scanner's word. -/
theorem lexWord (s : ByteArray) (i X : Nat) (m : Int) (hi : i < s.size) (hs : s.size ≤ 65536) (w : World) (hX : 1 < X) (hS : Holds w X 41 [.string s, .int .i64 i])
    (hm : w.cell? ⟨1, 0, none⟩ = some (.int .i64 m)) (h1 : 1 < w.heap.size) (htab : Lib.TabIs Tryd.prog w "strings.asciiSpace" .u8 Lib.asciiSpaceTab) :
    Calls Tryd.prog 16 #[.pointer (some ⟨X, 0, none⟩)] w (LTokPost i (word 0 (rest s i)) w) := by
  rw [← rest_extract]
  have hz : 0 < (s.extract i s.size).size := by rw [ByteArray.size_extract]; omega
  by_cases hL : ltr (s.extract i s.size)[0].toNat = true
  · exact lexWordL s _ i X m hi hs rfl hz w hX hS hm h1 hL
  · have hL' := eq_false_of_ne_true hL
    by_cases hD : dig (s.extract i s.size)[0].toNat = true
    · exact lexWordD s _ i X m hi hs rfl hz w hX hS hm h1 hL' hD
    · have hD' := eq_false_of_ne_true hD
      by_cases hq : ((s.extract i s.size)[0] == 34) = true
      · exact lexWordQ s _ i X m hi hs rfl hz w hX hS hm h1 hL' hD' hq
      · exact lexWordS s _ i X m hi hs rfl hz w hX hS hm h1 htab hL' hD' (eq_false_of_ne_true hq)
end Go.Proofs.YtndcbbhfhcjadaaDoor
