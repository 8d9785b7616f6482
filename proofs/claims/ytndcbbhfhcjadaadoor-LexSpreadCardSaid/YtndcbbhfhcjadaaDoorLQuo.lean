/- The walk of (*lex.scanner).quoted. (Printed by mklquo.py.) -/
import Derived.Test.YtndcbbhfhcjadaaDoorLBlank
import Derived.Deep.RegionHeld3
namespace Go.Proofs.YtndcbbhfhcjadaaDoor
open Go.RowKit

/-- What the scanner's word answers, the word being read from the rest of the text from place i on. -/
def LTokPost (i : Nat) (R : Res (Tk × Nat)) (w : World) (e : Ending) (w' : World) : Prop :=
  Below w.heap.size w w' ∧ match R with
  | .ok (t, k) => e = .returned (.tuple #[tok t.kind ⟨t.text.toArray⟩ t.num 0, .int .i64 k, mish 0 0])
  | .bad c a => e = .returned (.tuple #[tok 0 ⟨#[]⟩ 0 0, .int .i64 0, mish c (i + a)])

theorem Below.drew {B : Nat} {w w' : World} (h : Below B w w') : Below B w w'.drew := ⟨h.os, h.tape, h.output, h.size, h.block⟩

theorem wrap_small {n : Int} (h : 0 ≤ n) (h' : n < 1000000) : IntKind.i64.wrap n = n := by
  simp [IntKind.wrap, IntKind.signed, IntKind.bits]
  omega
theorem mish_add (c i a : Nat) : Value.agg #[.int .i64 (c : Int), .int .i64 ((i : Int) + (a : Int))] = mish c (i + a) := by simp [mish]

theorem Holds.drew {w : World} {g : Nat} {t : TypeId} {cs : List Value} (h : Holds w g t cs) : Holds w.drew g t cs := h

theorem out31 {w : World} {tmps : Array Value} {g h : Nat} {a b c d x y : Value} (hH : Holds w g 33 [a, b, c, d]) (hK : Holds w h 26 [x, y])
    (h4 : tmps[4]?.getD undef = .pointer (some ⟨g, 0, none⟩)) (h6 : tmps[6]?.getD undef = .pointer (some ⟨h, 0, none⟩)) :
    (results Tryd.f31 tmps).run Tryd.prog w = .ok (.tuple #[.agg #[a, b, c, d], tmps.getD 5 undef, .agg #[x, y]]) w := by
  have c0 := hH.cell 0
  have c1 := hH.cell 1
  have c2 := hH.cell 2
  have c3 := hH.cell 3
  have d0 := hK.cell 0
  have d1 := hK.cell 1
  simp at c0 c1 c2 c3 d0 d1
  simp [results, Tryd.results31, h4, h6, go_sem, c0, c1, c2, c3, d0, d1]

theorem esc_at {c : UInt8} : Lib.indexByte [110, 116, 92, 34] c = if c == 110 then 0 else if c == 116 then 1 else if c == 92 then 2 else if c == 34 then 3 else -1 := by
  simp only [Lib.indexByte]
  by_cases h0 : c = 110
  · subst h0; decide
  by_cases h1 : c = 116
  · subst h1; decide
  by_cases h2 : c = 92
  · subst h2; decide
  by_cases h3 : c = 34
  · subst h3; decide
  simp [h0, h1, h2, h3, Ne.symm h0, Ne.symm h1, Ne.symm h2, Ne.symm h3]

set_option maxHeartbeats 4000000 in
set_option maxRecDepth 100000 in
theorem lexQuoted (r s : ByteArray) (i X : Nat) (hr : i + r.size = s.size) (h0 : 0 < r.size) (hs : s.size ≤ 65536) (w : World) (hS : Holds w X 41 [.string s, .int .i64 i]) :
    Calls Tryd.prog 31 #[.pointer (some ⟨X, 0, none⟩), .string r] w (LTokPost i (quoRes 0 (quo 1 [] (rest r 1))) w) := by
  obtain ⟨R, hR⟩ : ∃ R, R = quo 1 [] (rest r 1) := ⟨_, rfl⟩
  rw [← hR]
  have HR := Lib.hid hR
  clear hR
  have hXl := hS.lt
  go_enter Tryd.func31, Tryd.ntmps31
  go_wp2
  go_loopw [7, 8] (fun v n wr => ∃ (k : Nat) (acc : Bs), n = .int .i64 (k : Int) ∧ k ≤ r.size ∧ acc.length ≤ k ∧ Hid (R = quo k acc (rest r k)) ∧ wr.ownsRow w.heap.size 5 1 v acc.length (bcells acc) ∧ Holds wr w.heap.size 33 [.int .i64 0, .string ⟨#[]⟩, .int .i64 0, .int .i64 0] ∧ Holds wr (w.heap.size + 1) 26 [.int .i64 0, .int .i64 0] ∧ Below w.heap.size w wr) (fun _ n _ => (r.size + 10 - intOf n).toNat)
  case atStart =>
    exact ⟨1, [], rfl, by omega, by simp, HR, ⟨rfl, .inl ⟨rfl, rfl⟩⟩, (Holds.new w _ _).alloc _, by have := Holds.new (w.alloc (.cells #[.int .i64 0, .string ⟨#[]⟩, .int .i64 0, .int .i64 0] 33)) 26 #[.int .i64 0, .int .i64 0]; simpa using this, ((Below.refl _ _).alloc (Nat.le_refl _) _).alloc (by simp) _⟩
  case round =>
    obtain ⟨k, acc, rfl, hk, hak, HK, hown, hT, hM, hB⟩ := hrel
    have hSr := hS.below hB hXl
    have x0 := hSr.cell 0
    have x1 := hSr.cell 1
    simp at x0 x1
    have n0 : ¬ X = w.heap.size := by omega
    have n1 : ¬ X = w.heap.size + 1 := by omega
    have n2 : ¬ w.heap.size = X := by omega
    have n3 : ¬ w.heap.size + 1 = X := by omega
    by_cases hl : k < r.size
    · by_cases hq : (r[k] == 34) = true
      · have hq' := (u8i r[k] 34).trans hq
        change ((r[k].toNat : Int) == 34) = true at hq'
        have HQ := Lib.hid (quo_close acc hl hq)
        clear hq
        have c0 := hT.cell 0
        have c1 := hT.cell 1
        have c2 := hT.cell 2
        have c3 := hT.cell 3
        have d0 := hM.cell 0
        have d1 := hM.cell 1
        have f0 := hT.free 0
        have f1 := hT.free 1
        have f2 := hT.free 2
        have f3 := hT.free 3
        have g0 := hM.free 0
        have g1 := hM.free 1
        simp at c0 c1 c2 c3 d0 d1
        have hcv := conv_own hown
        go_wp2_with (simp only [hcv])
        obtain ⟨h1, h2, h3⟩ := six hT hM hB (.int .i64 3) (.string ⟨acc.toArray⟩) (.int .i64 0) (.int .i64 0) (.int .i64 0) (.int .i64 0)
        exact bodyPost_ret (out31 h1 h2 rfl rfl) rfl ⟨h3, by rw [HK.out, HQ.out]; rfl⟩
      · have hq1 := eq_false_of_ne_true hq
        have hq' := (u8i r[k] 34).trans hq1
        change ((r[k].toNat : Int) == 34) = false at hq'
        clear hq
        by_cases hv : r[k].toNat < 32 ∨ 126 < r[k].toNat
        · have HQ := Lib.hid (quo_bad acc hl hq1 hv)
          have hv' : (decide ((r[k].toNat : Int) < 32) || decide (126 < (r[k].toNat : Int))) = true := by simp; omega
          clear hv hq1
          by_cases hv1 : (r[k].toNat : Int) < 32
          · skip
            have c0 := hT.cell 0
            have c1 := hT.cell 1
            have c2 := hT.cell 2
            have c3 := hT.cell 3
            have d0 := hM.cell 0
            have d1 := hM.cell 1
            have f0 := hT.free 0
            have f1 := hT.free 1
            have f2 := hT.free 2
            have f3 := hT.free 3
            have g0 := hM.free 0
            have g1 := hM.free 1
            simp at c0 c1 c2 c3 d0 d1
            have hwr : IntKind.i64.wrap ((i : Int) + (k : Int)) = (i : Int) + (k : Int) := wrap_small (by omega) (by omega)
            go_wp2
            go_region_held3 (fun w2 => w2.cell? ⟨X, 1, none⟩ = some (.int .i64 (i : Int))) (go_keep) (fail)
            go_wp2
            obtain ⟨h1, h2, h3⟩ := six hT hM hB (.int .i64 0) (.string ⟨#[]⟩) (.int .i64 0) (.int .i64 0) (.int .i64 22) (.int .i64 ((i : Int) + (k : Nat)))
            exact bodyPost_ret (out31 h1.drew h2.drew rfl rfl) rfl ⟨h3.drew, by rw [HK.out, HQ.out]; simp only [quoRes]; rw [← mish_add]; rfl⟩
          · have hv2 : (126 : Int) < (r[k].toNat : Int) := by simpa [hv1] using hv'
            have hv3 : decide ((r[k].toNat : Int) < 32) = false := by simp; omega
            have c0 := hT.cell 0
            have c1 := hT.cell 1
            have c2 := hT.cell 2
            have c3 := hT.cell 3
            have d0 := hM.cell 0
            have d1 := hM.cell 1
            have f0 := hT.free 0
            have f1 := hT.free 1
            have f2 := hT.free 2
            have f3 := hT.free 3
            have g0 := hM.free 0
            have g1 := hM.free 1
            simp at c0 c1 c2 c3 d0 d1
            have hwr : IntKind.i64.wrap ((i : Int) + (k : Int)) = (i : Int) + (k : Int) := wrap_small (by omega) (by omega)
            go_wp2
            go_region_held3 (fun w2 => w2.cell? ⟨X, 1, none⟩ = some (.int .i64 (i : Int))) (go_keep) (fail)
            go_wp2
            obtain ⟨h1, h2, h3⟩ := six hT hM hB (.int .i64 0) (.string ⟨#[]⟩) (.int .i64 0) (.int .i64 0) (.int .i64 22) (.int .i64 ((i : Int) + (k : Nat)))
            exact bodyPost_ret (out31 h1.drew h2.drew rfl rfl) rfl ⟨h3.drew, by rw [HK.out, HQ.out]; simp only [quoRes]; rw [← mish_add]; rfl⟩
        · have hv1 : decide ((r[k].toNat : Int) < 32) = false := by simp; omega
          have hv2 : decide ((126 : Int) < (r[k].toNat : Int)) = false := by simp; omega
          have HV := Lib.hid hv
          have HQ1 := Lib.hid hq1
          clear hv hq1
          by_cases h92 : (r[k] == 92) = true
          · have h92' := (u8i r[k] 92).trans h92
            change ((r[k].toNat : Int) == 92) = true at h92'
            have H92 := Lib.hid h92
            clear h92
            by_cases hm : k + 1 < r.size
            · cases he : esc r[k + 1] with
              | some x =>
                have HS := Lib.hid (quo_esc acc x hm H92.out he)
                rcases esc_some he with ⟨hc, rfl⟩ | ⟨hc, rfl⟩ | ⟨hc, rfl⟩ | ⟨hc, rfl⟩
                · have hx : Lib.indexByte (ByteArray.mk #[110, 116, 92, 34]).data.toList ((r[k + 1].toNat : Int)).toNat.toUInt8 = 0 := by rw [hc]; decide
                  clear hc he
                  obtain ⟨i0, hi0, hz0, hz1, hz2⟩ := info_parts Tryd.info5
                  go_wp2_with (fail)
                  refine (Tryd.strings_IndexByte _ _ _).mono ?_
                  rintro e wr ⟨rfl, rfl⟩
                  rw [hx]
                  go_wp2_with (at_builtin; refine wpList_append_own_at _ rfl (.tmp 71) (.tmp 74) _ rfl w.heap.size 5 i0 _ 1 1 Tryd.underlying59 hi0 hz0 hz1 hz2 rfl (by omega) u7 acc.length (bcells acc) rfl (hown.alloc _) ⟨wr.heap.size, 0, none⟩ 1 1 [.int .u8 10] rfl rfl ?c1 ?c2 ?c3 ?c4 ?c5 ?_)
                  case c1 => exact cell_one_new _ _ _
                  case c2 => simp [Value.oneCell']
                  case c3 => unfold maxLen; omega
                  case c4 => omega
                  case c5 => have := hB.size; simp at this ⊢; omega
                  intro v' w2 hown2 hgrow _ _
                  have hTa := own_kept (hown.alloc (.cells #[.int .u8 10] 5)) hgrow (hT.alloc _) (by decide)
                  have hMa := own_kept (hown.alloc (.cells #[.int .u8 10] 5)) hgrow (hM.alloc _) (by decide)
                  have hBa := below_own (hB.alloc hB.size (.cells #[.int .u8 10] 5)) (hown.alloc _) hgrow
                  go_wp2
                  exact ⟨⟨k + 2, acc ++ [10], rfl, by omega, by simp; omega, (by rw [HK.out]; exact HS.out), own_push 10 hown2, hTa, hMa, hBa⟩, by simp [intOf]; omega⟩
                · have hx : Lib.indexByte (ByteArray.mk #[110, 116, 92, 34]).data.toList ((r[k + 1].toNat : Int)).toNat.toUInt8 = 1 := by rw [hc]; decide
                  clear hc he
                  obtain ⟨i0, hi0, hz0, hz1, hz2⟩ := info_parts Tryd.info5
                  go_wp2_with (fail)
                  refine (Tryd.strings_IndexByte _ _ _).mono ?_
                  rintro e wr ⟨rfl, rfl⟩
                  rw [hx]
                  go_wp2_with (at_builtin; refine wpList_append_own_at _ rfl (.tmp 71) (.tmp 74) _ rfl w.heap.size 5 i0 _ 1 1 Tryd.underlying59 hi0 hz0 hz1 hz2 rfl (by omega) u7 acc.length (bcells acc) rfl (hown.alloc _) ⟨wr.heap.size, 0, none⟩ 1 1 [.int .u8 9] rfl rfl ?c1 ?c2 ?c3 ?c4 ?c5 ?_)
                  case c1 => exact cell_one_new _ _ _
                  case c2 => simp [Value.oneCell']
                  case c3 => unfold maxLen; omega
                  case c4 => omega
                  case c5 => have := hB.size; simp at this ⊢; omega
                  intro v' w2 hown2 hgrow _ _
                  have hTa := own_kept (hown.alloc (.cells #[.int .u8 9] 5)) hgrow (hT.alloc _) (by decide)
                  have hMa := own_kept (hown.alloc (.cells #[.int .u8 9] 5)) hgrow (hM.alloc _) (by decide)
                  have hBa := below_own (hB.alloc hB.size (.cells #[.int .u8 9] 5)) (hown.alloc _) hgrow
                  go_wp2
                  exact ⟨⟨k + 2, acc ++ [9], rfl, by omega, by simp; omega, (by rw [HK.out]; exact HS.out), own_push 9 hown2, hTa, hMa, hBa⟩, by simp [intOf]; omega⟩
                · have hx : Lib.indexByte (ByteArray.mk #[110, 116, 92, 34]).data.toList ((r[k + 1].toNat : Int)).toNat.toUInt8 = 2 := by rw [hc]; decide
                  clear hc he
                  obtain ⟨i0, hi0, hz0, hz1, hz2⟩ := info_parts Tryd.info5
                  go_wp2_with (fail)
                  refine (Tryd.strings_IndexByte _ _ _).mono ?_
                  rintro e wr ⟨rfl, rfl⟩
                  rw [hx]
                  go_wp2_with (at_builtin; refine wpList_append_own_at _ rfl (.tmp 71) (.tmp 74) _ rfl w.heap.size 5 i0 _ 1 1 Tryd.underlying59 hi0 hz0 hz1 hz2 rfl (by omega) u7 acc.length (bcells acc) rfl (hown.alloc _) ⟨wr.heap.size, 0, none⟩ 1 1 [.int .u8 92] rfl rfl ?c1 ?c2 ?c3 ?c4 ?c5 ?_)
                  case c1 => exact cell_one_new _ _ _
                  case c2 => simp [Value.oneCell']
                  case c3 => unfold maxLen; omega
                  case c4 => omega
                  case c5 => have := hB.size; simp at this ⊢; omega
                  intro v' w2 hown2 hgrow _ _
                  have hTa := own_kept (hown.alloc (.cells #[.int .u8 92] 5)) hgrow (hT.alloc _) (by decide)
                  have hMa := own_kept (hown.alloc (.cells #[.int .u8 92] 5)) hgrow (hM.alloc _) (by decide)
                  have hBa := below_own (hB.alloc hB.size (.cells #[.int .u8 92] 5)) (hown.alloc _) hgrow
                  go_wp2
                  exact ⟨⟨k + 2, acc ++ [92], rfl, by omega, by simp; omega, (by rw [HK.out]; exact HS.out), own_push 92 hown2, hTa, hMa, hBa⟩, by simp [intOf]; omega⟩
                · have hx : Lib.indexByte (ByteArray.mk #[110, 116, 92, 34]).data.toList ((r[k + 1].toNat : Int)).toNat.toUInt8 = 3 := by rw [hc]; decide
                  clear hc he
                  obtain ⟨i0, hi0, hz0, hz1, hz2⟩ := info_parts Tryd.info5
                  go_wp2_with (fail)
                  refine (Tryd.strings_IndexByte _ _ _).mono ?_
                  rintro e wr ⟨rfl, rfl⟩
                  rw [hx]
                  go_wp2_with (at_builtin; refine wpList_append_own_at _ rfl (.tmp 71) (.tmp 74) _ rfl w.heap.size 5 i0 _ 1 1 Tryd.underlying59 hi0 hz0 hz1 hz2 rfl (by omega) u7 acc.length (bcells acc) rfl (hown.alloc _) ⟨wr.heap.size, 0, none⟩ 1 1 [.int .u8 34] rfl rfl ?c1 ?c2 ?c3 ?c4 ?c5 ?_)
                  case c1 => exact cell_one_new _ _ _
                  case c2 => simp [Value.oneCell']
                  case c3 => unfold maxLen; omega
                  case c4 => omega
                  case c5 => have := hB.size; simp at this ⊢; omega
                  intro v' w2 hown2 hgrow _ _
                  have hTa := own_kept (hown.alloc (.cells #[.int .u8 34] 5)) hgrow (hT.alloc _) (by decide)
                  have hMa := own_kept (hown.alloc (.cells #[.int .u8 34] 5)) hgrow (hM.alloc _) (by decide)
                  have hBa := below_own (hB.alloc hB.size (.cells #[.int .u8 34] 5)) (hown.alloc _) hgrow
                  go_wp2
                  exact ⟨⟨k + 2, acc ++ [34], rfl, by omega, by simp; omega, (by rw [HK.out]; exact HS.out), own_push 34 hown2, hTa, hMa, hBa⟩, by simp [intOf]; omega⟩
              | none =>
                have HS := Lib.hid (quo_esc_bad acc hl H92.out (fun _ => he))
                have hx : Lib.indexByte (ByteArray.mk #[110, 116, 92, 34]).data.toList ((r[k + 1].toNat : Int)).toNat.toUInt8 = -1 := by
                  have hb : ((r[k + 1].toNat : Int)).toNat.toUInt8 = r[k + 1] := by simp
                  rw [hb]
                  change Lib.indexByte [110, 116, 92, 34] _ = _
                  obtain ⟨a, b, c, d⟩ := esc_none he
                  rw [esc_at, a, b, c, d]; rfl
                clear he
                have c0 := hT.cell 0
                have c1 := hT.cell 1
                have c2 := hT.cell 2
                have c3 := hT.cell 3
                have d0 := hM.cell 0
                have d1 := hM.cell 1
                have f0 := hT.free 0
                have f1 := hT.free 1
                have f2 := hT.free 2
                have f3 := hT.free 3
                have g0 := hM.free 0
                have g1 := hM.free 1
                simp at c0 c1 c2 c3 d0 d1
                go_wp2_with (fail)
                refine (Tryd.strings_IndexByte _ _ _).mono ?_
                rintro e wr ⟨rfl, rfl⟩
                rw [hx]
                have hwr : IntKind.i64.wrap ((i : Int) + (k : Int)) = (i : Int) + (k : Int) := wrap_small (by omega) (by omega)
                go_wp2
                go_region_held3 (fun w2 => w2.cell? ⟨X, 1, none⟩ = some (.int .i64 (i : Int))) (go_keep) (fail)
                go_wp2
                obtain ⟨h1, h2, h3⟩ := six hT hM hB (.int .i64 0) (.string ⟨#[]⟩) (.int .i64 0) (.int .i64 0) (.int .i64 22) (.int .i64 ((i : Int) + (k : Nat)))
                exact bodyPost_ret (out31 h1.drew h2.drew rfl rfl) rfl ⟨h3.drew, by rw [HK.out, HS.out]; simp only [quoRes]; rw [← mish_add]; rfl⟩
            · have hm' : decide ((k : Int) + 1 < (r.size : Int)) = false := by simp; omega
              have HS := Lib.hid (quo_esc_bad acc hl H92.out (fun h => absurd h hm))
              have c0 := hT.cell 0
              have c1 := hT.cell 1
              have c2 := hT.cell 2
              have c3 := hT.cell 3
              have d0 := hM.cell 0
              have d1 := hM.cell 1
              have f0 := hT.free 0
              have f1 := hT.free 1
              have f2 := hT.free 2
              have f3 := hT.free 3
              have g0 := hM.free 0
              have g1 := hM.free 1
              simp at c0 c1 c2 c3 d0 d1
              have hwr : IntKind.i64.wrap ((i : Int) + (k : Int)) = (i : Int) + (k : Int) := wrap_small (by omega) (by omega)
              go_wp2
              go_region_held3 (fun w2 => w2.cell? ⟨X, 1, none⟩ = some (.int .i64 (i : Int))) (go_keep) (fail)
              go_wp2
              obtain ⟨h1, h2, h3⟩ := six hT hM hB (.int .i64 0) (.string ⟨#[]⟩) (.int .i64 0) (.int .i64 0) (.int .i64 22) (.int .i64 ((i : Int) + (k : Nat)))
              exact bodyPost_ret (out31 h1.drew h2.drew rfl rfl) rfl ⟨h3.drew, by rw [HK.out, HS.out]; simp only [quoRes]; rw [← mish_add]; rfl⟩
          · have h92b := eq_false_of_ne_true h92
            have h92' := (u8i r[k] 92).trans h92b
            change ((r[k].toNat : Int) == 92) = false at h92'
            have HS := Lib.hid (quo_step acc hl HQ1.out HV.out h92b)
            clear h92 h92b
            obtain ⟨i0, hi0, hz0, hz1, hz2⟩ := info_parts Tryd.info5
            go_wp2_with (at_builtin; refine wpList_append_own_at _ rfl (.tmp 20) (.tmp 22) _ rfl w.heap.size 5 i0 _ 1 1 Tryd.underlying59 hi0 hz0 hz1 hz2 rfl (by omega) u7 acc.length (bcells acc) rfl (hown.alloc _) ⟨wr.heap.size, 0, none⟩ 1 1 [.int .u8 (r[k].toNat : Int)] rfl rfl ?c1 ?c2 ?c3 ?c4 ?c5 ?_)
            case c1 => exact cell_one_new _ _ _
            case c2 => simp [Value.oneCell']
            case c3 => unfold maxLen; omega
            case c4 => omega
            case c5 => have := hB.size; simp at this ⊢; omega
            intro v' w2 hown2 hgrow _ _
            have hTa := own_kept (hown.alloc (.cells #[.int .u8 (r[k].toNat : Int)] 5)) hgrow (hT.alloc _) (by decide)
            have hMa := own_kept (hown.alloc (.cells #[.int .u8 (r[k].toNat : Int)] 5)) hgrow (hM.alloc _) (by decide)
            have hBa := below_own (hB.alloc hB.size (.cells #[.int .u8 (r[k].toNat : Int)] 5)) (hown.alloc _) hgrow
            go_wp2
            exact ⟨⟨k + 1, acc ++ [r[k]], rfl, by omega, by simp; omega, (by rw [HK.out]; exact HS.out), own_push r[k] hown2, hTa, hMa, hBa⟩, by simp [intOf]; omega⟩
    · have hl' : decide ((k : Int) < (r.size : Int)) = false := by simp; omega
      have HS := Lib.hid (quo_end (s := r) (i := k) acc (by omega))
      have c0 := hT.cell 0
      have c1 := hT.cell 1
      have c2 := hT.cell 2
      have c3 := hT.cell 3
      have d0 := hM.cell 0
      have d1 := hM.cell 1
      have f0 := hT.free 0
      have f1 := hT.free 1
      have f2 := hT.free 2
      have f3 := hT.free 3
      have g0 := hM.free 0
      have g1 := hM.free 1
      simp at c0 c1 c2 c3 d0 d1
      go_wp2
      go_region_held3 (fun w2 => w2.cell? ⟨X, 0, none⟩ = some (.string s)) (go_keep) (fail)
      go_wp2
      obtain ⟨h1, h2, h3⟩ := six hT hM hB (.int .i64 0) (.string ⟨#[]⟩) (.int .i64 0) (.int .i64 0) (.int .i64 21) (.int .i64 (s.size : Nat))
      exact bodyPost_ret (out31 h1.drew h2.drew rfl rfl) rfl ⟨h3.drew, by rw [HK.out, HS.out]; simp only [quoRes]; rw [hr]; rfl⟩
end Go.Proofs.YtndcbbhfhcjadaaDoor
