/- The walk of (*lex.scanner).word where a name begins. -/
import Derived.Test.YtndcbbhfhcjadaaDoorLQuo
import Derived.Test.YtndcbbhfhcjadaaDoorLTrim
namespace Go.Proofs.YtndcbbhfhcjadaaDoor
open Go.RowKit
set_option linter.unusedVariables false

theorem out26 {w : World} {tmps : Array Value} {g h : Nat} {a b c d x y : Value} (hH : Holds w g 33 [a, b, c, d]) (hK : Holds w h 26 [x, y])
    (h4 : tmps[4]?.getD undef = .pointer (some ⟨g, 0, none⟩)) (h6 : tmps[6]?.getD undef = .pointer (some ⟨h, 0, none⟩)) :
    (results Tryd.f26 tmps).run Tryd.prog w = .ok (.tuple #[.agg #[a, b, c, d], tmps.getD 5 undef, .agg #[x, y]]) w := by
  have c0 := hH.cell 0
  have c1 := hH.cell 1
  have c2 := hH.cell 2
  have c3 := hH.cell 3
  have d0 := hK.cell 0
  have d1 := hK.cell 1
  simp at c0 c1 c2 c3 d0 d1
  simp [results, Tryd.results26, h4, h6, go_sem, c0, c1, c2, c3, d0, d1]

set_option maxRecDepth 100000 in
theorem wordBad (c a : Nat) (w : World) : Calls Tryd.prog 26 #[.int .i64 (c : Int), .int .i64 (a : Int)] w fun e w' => e = .returned (.tuple #[tok 0 ⟨#[]⟩ 0 0, .int .i64 0, mish c a]) ∧ Below w.heap.size w w' := by
  go_enter Tryd.func26, Tryd.ntmps26
  go_wp2
  obtain ⟨h1, h2, h3⟩ := laid34 w 33 #[.int .i64 0, .string ⟨#[]⟩, .int .i64 0, .int .i64 0] #[.int .i64 c, .int .i64 a]
  exact bodyPost_ret (out26 h1 h2 rfl rfl) rfl ⟨rfl, h3⟩

theorem out16 {w : World} {tmps : Array Value} {g h : Nat} {a b c d x y : Value} (hH : Holds w g 33 [a, b, c, d]) (hK : Holds w h 26 [x, y])
    (h4 : tmps[2]?.getD undef = .pointer (some ⟨g, 0, none⟩)) (h6 : tmps[4]?.getD undef = .pointer (some ⟨h, 0, none⟩)) :
    (results Tryd.f16 tmps).run Tryd.prog w = .ok (.tuple #[.agg #[a, b, c, d], tmps.getD 3 undef, .agg #[x, y]]) w := by
  have c0 := hH.cell 0
  have c1 := hH.cell 1
  have c2 := hH.cell 2
  have c3 := hH.cell 3
  have d0 := hK.cell 0
  have d1 := hK.cell 1
  simp at c0 c1 c2 c3 d0 d1
  simp [results, Tryd.results16, h4, h6, go_sem, c0, c1, c2, c3, d0, d1]

theorem drewN_cell {w : World} {p : Addr} {v : Value} (h : w.cell? p = some v) (n : Nat) : (w.drewN n).cell? p = some v := h
theorem lod_res {l : Bs} (h : l.all lod = true) : isRes l = names.contains l := by
  unfold isRes
  cases hc : signs.contains l with
  | false => simp
  | true =>
    have hs : ∀ x ∈ signs, x.all lod = false := by decide +kernel
    rw [hs l (List.elem_iff.1 hc)] at h
    cases h
theorem all_take (p : UInt8 → Bool) : ∀ l : Bs, (l.take (l.takeWhile p).length).all p = true
  | [] => by simp
  | c :: l => by
    rw [List.takeWhile_cons]
    by_cases h : p c = true
    · rw [if_pos h, List.length_cons, List.take_succ_cons, List.all_cons, h, all_take p l]; rfl
    · rw [if_neg h]; simp

theorem enters29 : ∀ args w, (callFunc 29 args).run Tryd.prog w = .ok (.enter 29 args) w := enters_of Tryd.func29 (by decide) rfl
theorem rune_grows (w : World) : PredGrows Tryd.prog 29 #[] runeIn w := fun W x hx _ => (wordRune x hx W).mono fun _ _ ⟨he, hw⟩ => ⟨he, hw ▸ Below.refl _ _⟩

set_option maxHeartbeats 4000000 in
set_option maxRecDepth 100000 in
theorem lexWordL (s r : ByteArray) (i X : Nat) (m : Int) (hi : i < s.size) (hs : s.size ≤ 65536) (hr : s.extract i s.size = r) (hz : 0 < r.size) (w : World) (hX : 1 < X) (hS : Holds w X 41 [.string s, .int .i64 i])
    (hm : w.cell? ⟨1, 0, none⟩ = some (.int .i64 m)) (h1 : 1 < w.heap.size) (hL : ltr r[0].toNat = true) :
    Calls Tryd.prog 16 #[.pointer (some ⟨X, 0, none⟩)] w (LTokPost i (word 0 (rest r 0)) w) := by
  obtain ⟨R, hR⟩ : ∃ R, R = word 0 (rest r 0) := ⟨_, rfl⟩
  rw [← hR]
  have HR := Lib.hid hR
  clear hR
  have hXl := hS.lt
  have y0 := hS.cell 0
  have y1 := hS.cell 1
  simp at y0 y1
  obtain ⟨hT, hM, hB⟩ := laid34 w 33 #[.int .i64 0, .string ⟨#[]⟩, .int .i64 0, .int .i64 0] #[.int .i64 0, .int .i64 0]
  have hSr := hS.below hB hXl
  have hmr := (Holds.same (hB.block 1 h1) 0).trans hm
  go_enter Tryd.func16, Tryd.ntmps16
  go_wp2
  go_quiet (fail)
  replace hT := hT.drewN nq
  replace hM := hM.drewN nq
  replace hSr := hSr.drewN nq
  replace hB := below_drewN' hB nq
  replace hmr := drewN_cell hmr nq
  generalize (((w.alloc (.cells #[.int .i64 0, .string ⟨#[]⟩, .int .i64 0, .int .i64 0] 33)).alloc (.cells #[.int .i64 0, .int .i64 0] 26)).drewN nq) = wr at hT hM hB hSr hmr ⊢
  clear hm y0 y1
  go_wp2_with (fail)
  refine (lexLetter _ (UInt8.toNat_lt _) _).mono ?_
  rintro e wr ⟨rfl, rfl⟩
  go_wp2_with (fail)
  refine (Tryd.strings_TrimLeftFunc_grows 29 #[] enters29 runeIn r _ (rune_grows _)).mono ?_
  rintro e w2 ⟨rfl, hb2⟩
  replace hT := hT.belowAll hb2
  replace hM := hM.belowAll hb2
  replace hmr := (Holds.same (hb2.block 1 (Nat.lt_of_lt_of_le h1 hB.size)) 0).trans hmr
  replace hSr := hSr.belowAll hb2
  replace hB := hB.trans (hb2.mono hB.size)
  have ht := trim_size r
  have hnr := takeWhile_len lod (rest r 0)
  have hn0 := tw_more lod hz (by unfold lod; rw [hL]; rfl)
  obtain ⟨n, hn⟩ : ∃ n, ((rest r 0).takeWhile lod).length = n := ⟨_, rfl⟩
  have hall := all_take lod (rest r 0)
  rw [hn] at ht hnr hall
  rw [rest_len] at hnr
  generalize Lib.trimLeftF runeIn r = t at ht ⊢
  have hsub : (r.size : Int) - (t.size : Int) = (n : Int) := by omega
  have HN := Lib.hid hn
  have hrl : r.size ≤ 65536 := by rw [← hr, ByteArray.size_extract]; omega
  have HA := Lib.hid hall
  clear hn hn0 hall ht
  by_cases h32 : 32 < n
  · have HQ := Lib.hid (word_ltr_bad hz hL HN.out h32)
    have c0 := hT.cell 0
    have c1 := hT.cell 1
    have c2 := hT.cell 2
    have c3 := hT.cell 3
    have d0 := hM.cell 0
    have d1 := hM.cell 1
    have f0 := hT.free 0
    have f1 := hT.free 1
    have f2 := hT.free 2
    have f3 := hT.free 3
    have g0 := hM.free 0
    have g1 := hM.free 1
    have x0 := hSr.cell 0
    have x1 := hSr.cell 1
    simp at c0 c1 c2 c3 d0 d1 x0 x1
    go_wp2_with (fail)
    refine (wordBad 22 i _).mono ?_
    rintro e w2 ⟨rfl, hb2⟩
    clear c0 c1 c2 c3 d0 d1 f0 f1 f2 f3 g0 g1 x0 x1
    replace hT := hT.belowAll hb2
    replace hM := hM.belowAll hb2
    replace hmr := (Holds.same (hb2.block 1 (Nat.lt_of_lt_of_le h1 hB.size)) 0).trans hmr
    replace hSr := hSr.belowAll hb2
    replace hB := hB.trans (hb2.mono hB.size)
    have c0 := hT.cell 0
    have c1 := hT.cell 1
    have c2 := hT.cell 2
    have c3 := hT.cell 3
    have d0 := hM.cell 0
    have d1 := hM.cell 1
    have f0 := hT.free 0
    have f1 := hT.free 1
    have f2 := hT.free 2
    have f3 := hT.free 3
    have g0 := hM.free 0
    have g1 := hM.free 1
    have x0 := hSr.cell 0
    have x1 := hSr.cell 1
    simp at c0 c1 c2 c3 d0 d1 x0 x1
    unfold tok mish
    go_wp2
    obtain ⟨j1, j2, j3⟩ := six hT hM hB (.int .i64 0) (.string ⟨#[]⟩) (.int .i64 0) (.int .i64 0) (.int .i64 (22 : Nat)) (.int .i64 (i : Nat))
    exact bodyPost_ret (out16 j1 j2 rfl rfl) rfl ⟨j3, by rw [HR.out, HQ.out]; rfl⟩
  · have HQ := Lib.hid (word_ltr_ok hz hL HN.out h32)
    have hpc := piece r 0 n
    rw [Nat.sub_zero] at hpc
    have hpl : ((rest r 0).take n).length ≤ n := by rw [List.length_take]; omega
    have hall := HA.out
    generalize (rest r 0).take n = p at hpc hpl hall HQ
    have hres : isRes (ByteArray.mk p.toArray).data.toList = names.contains p := lod_res hall
    have hp64 : (ByteArray.mk p.toArray).size < 4294967000 := by show p.toArray.size < _; simp; omega
    clear HA hall
    go_wp2_with (fail)
    refine (lexReserved _ m hp64 _ hmr).mono ?_
    rintro e w2 ⟨rfl, rfl⟩
    rw [hres]
    clear hres hp64
    by_cases hin : names.contains p = true
    · rw [if_pos hin] at HQ
      rw [hin]
      have c0 := hT.cell 0
      have c1 := hT.cell 1
      have c2 := hT.cell 2
      have c3 := hT.cell 3
      have d0 := hM.cell 0
      have d1 := hM.cell 1
      have f0 := hT.free 0
      have f1 := hT.free 1
      have f2 := hT.free 2
      have f3 := hT.free 3
      have g0 := hM.free 0
      have g1 := hM.free 1
      have x0 := hSr.cell 0
      have x1 := hSr.cell 1
      simp at c0 c1 c2 c3 d0 d1 x0 x1
      go_wp2
      obtain ⟨j1, j2, j3⟩ := six hT hM hB (.int .i64 4) (.string ⟨p.toArray⟩) (.int .i64 0) (.int .i64 0) (.int .i64 0) (.int .i64 0)
      exact bodyPost_ret (out16 j1 j2 rfl rfl) rfl ⟨j3, by rw [HR.out, HQ.out]; rw [Nat.zero_add]; rfl⟩
    · rw [if_neg hin] at HQ
      rw [eq_false_of_ne_true hin]
      have c0 := hT.cell 0
      have c1 := hT.cell 1
      have c2 := hT.cell 2
      have c3 := hT.cell 3
      have d0 := hM.cell 0
      have d1 := hM.cell 1
      have f0 := hT.free 0
      have f1 := hT.free 1
      have f2 := hT.free 2
      have f3 := hT.free 3
      have g0 := hM.free 0
      have g1 := hM.free 1
      have x0 := hSr.cell 0
      have x1 := hSr.cell 1
      simp at c0 c1 c2 c3 d0 d1 x0 x1
      go_wp2
      obtain ⟨j1, j2, j3⟩ := six hT hM hB (.int .i64 1) (.string ⟨p.toArray⟩) (.int .i64 0) (.int .i64 0) (.int .i64 0) (.int .i64 0)
      exact bodyPost_ret (out16 j1 j2 rfl rfl) rfl ⟨j3, by rw [HR.out, HQ.out]; rw [Nat.zero_add]; rfl⟩
end Go.Proofs.YtndcbbhfhcjadaaDoor
