/- Between quotes: laws of the plain reading by places, words for an own row of bytes, and the walk of sextantref02.quoted. -/
import Derived.Test.YtndcbbhfhcjadaaDoorBlank
import Derived.Laws.BytesArg
namespace Go.Proofs.YtndcbbhfhcjadaaDoor
open Go.RowKit

theorem quo_end {s : ByteArray} {i : Nat} (acc : Bs) (h : s.size = i) : quo i acc (rest s i) = .bad 21 s.size := by rw [rest_end (by omega), h]; rfl
theorem quo_close {s : ByteArray} {i : Nat} (acc : Bs) (h : i < s.size) (h1 : (s[i] == 34) = true) : quo i acc (rest s i) = .ok (acc, i + 1) := by
  rw [rest_cons h]
  by_cases h2 : i + 1 < s.size
  · rw [rest_cons h2, quo]; simp [h1]
  · rw [rest_end (i := i + 1) (by omega), quo]; simp [h1]
theorem quo_bad {s : ByteArray} {i : Nat} (acc : Bs) (h : i < s.size) (h1 : (s[i] == 34) = false) (h3 : s[i].toNat < 32 ∨ 126 < s[i].toNat) : quo i acc (rest s i) = .bad 22 i := by
  have h4 : (decide (s[i].toNat < 32) || decide (126 < s[i].toNat)) = true := by simpa using h3
  rw [rest_cons h]
  by_cases h2 : i + 1 < s.size
  · rw [rest_cons h2, quo, if_neg (by simp [h1]), if_pos h4]
  · rw [rest_end (i := i + 1) (by omega), quo, if_neg (by simp [h1]), if_pos h4]
theorem quo_step {s : ByteArray} {i : Nat} (acc : Bs) (h : i < s.size) (h1 : (s[i] == 34) = false) (h3 : ¬ (s[i].toNat < 32 ∨ 126 < s[i].toNat)) (h5 : (s[i] == 92) = false) :
    quo i acc (rest s i) = quo (i + 1) (acc ++ [s[i]]) (rest s (i + 1)) := by
  have h4 : (decide (s[i].toNat < 32) || decide (126 < s[i].toNat)) = false := by simpa using h3
  rw [rest_cons h]
  by_cases h2 : i + 1 < s.size
  · rw [rest_cons h2, quo, if_neg (by simp [h1]), if_neg (by simp [h4]), if_neg (by simp [h5])]
  · rw [rest_end (i := i + 1) (by omega), quo, if_neg (by simp [h1]), if_neg (by simp [h4]), if_neg (by simp [h5])]; rfl
theorem quo_esc {s : ByteArray} {i : Nat} (acc : Bs) (x : UInt8) (h : i + 1 < s.size) (h5 : (s[i] == 92) = true) (h6 : esc s[i + 1] = some x) :
    quo i acc (rest s i) = quo (i + 2) (acc ++ [x]) (rest s (i + 2)) := by
  have h7 := eq_of_beq h5
  rw [rest_cons (by omega), rest_cons h, quo, h7, if_neg (by decide), if_neg (by decide), if_pos (by decide), h6]
theorem quo_esc_bad {s : ByteArray} {i : Nat} (acc : Bs) (h : i < s.size) (h5 : (s[i] == 92) = true) (h6 : ∀ h : i + 1 < s.size, esc s[i + 1] = none) :
    quo i acc (rest s i) = .bad 22 i := by
  have h7 := eq_of_beq h5
  rw [rest_cons h]
  by_cases h2 : i + 1 < s.size
  · rw [rest_cons h2, quo, h7, if_neg (by decide), if_neg (by decide), if_pos (by decide), h6 h2]
  · rw [rest_end (i := i + 1) (by omega), quo, h7, if_neg (by decide), if_neg (by decide), if_pos (by decide)]

/-- Bytes as cells. -/
def bcells (l : Bs) : List Value := l.map fun c => Value.int .u8 (c.toNat : Int)
theorem bcells_len (l : Bs) : (bcells l).length = l.length := by simp [bcells]
theorem bcells_app (l : Bs) (c : UInt8) : bcells l ++ [Value.int .u8 (c.toNat : Int)] = bcells (l ++ [c]) := by simp [bcells]

theorem below_own {w W w2 : World} {e : TypeId} {size n : Nat} {v : Value} {xs : List Value} (hB : Below w.heap.size w W) (ho : W.ownsRow w.heap.size e size v n xs) (hg : W.grownBy w2 v.ownBlock) : Below w.heap.size w w2 := by
  refine ⟨hg.os.trans hB.os, hg.tape.trans hB.tape, hg.output.trans hB.output, Nat.le_trans hB.size hg.size, fun k hk => (hg.block k (Nat.lt_of_lt_of_le hk hB.size) ?_).trans (hB.block k hk)⟩
  intro hv
  rcases ho.2 with ⟨rfl, _⟩ | ⟨g, cap, cur, rfl, hb, _⟩
  · cases hv
  · have : k = g := by simpa [Value.ownBlock] using hv
    omega
theorem own_kept {W w2 : World} {base : Nat} {e t : TypeId} {size n g : Nat} {v : Value} {xs cs : List Value} (ho : W.ownsRow base e size v n xs) (hg : W.grownBy w2 v.ownBlock) (hH : Holds W g t cs) (hne : e ≠ t) : Holds w2 g t cs := by
  have hF : Fr (fun k => v.ownBlock = some k) W w2 := (Fr.refl _ _).grown hg fun k hk _ => hk
  exact hF.holds hH (owns_ne_holds ho hH hne)

/-- A row of bytes of the call's own, made a string. -/
theorem conv_own {w : World} {base n : Nat} {v : Value} {xs : Bs} (h : w.ownsRow base 5 1 v n (bcells xs)) : (convert 59 9 v).run Tryd.prog w = .ok (.string ⟨xs.toArray⟩) w := by
  have hl : xs.length = n := by have := h.1; rw [bcells_len] at this; omega
  rcases h.2 with ⟨rfl, h0⟩ | ⟨g, cap, cur, rfl, hb, hg, hnc, hcm, hcs, ht⟩
  · subst h0
    have : xs = [] := List.length_eq_zero_iff.1 hl
    subst this
    exact run_convert_bytes_nil w 59 5 Tryd.underlying59 Tryd.underlying5 0 0 9 Tryd.underlying9
  · have hx := run_convert_bytes_arg (P := Tryd.prog) w 59 5 Tryd.underlying59 Tryd.underlying5 g 0 n cap (xs.map fun c => (c.toNat : Int)) (by simpa using hl) (fun i hi => by
      have hc := h.cellAt (g := g) (j := i) (by omega)
      rw [Nat.zero_add, hc]
      have hi' : i < xs.length := by omega
      simp [bcells, List.getElem?_eq_getElem hi', List.getD_eq_getElem?_getD]) 9 Tryd.underlying9
    rw [hx]
    have hm : (xs.map fun c => (c.toNat : Int)).map (fun n => UInt8.ofNat n.toNat) = xs := by
      rw [List.map_map]
      refine (List.map_congr_left (g := id) fun c _ => ?_).trans (List.map_id _)
      simp
    simp only [strOfNums, hm]

/-- What quoted answers: k words for the token's struct. -/
def TokPost (R : Res (Tk × Nat)) (w : World) (e : Ending) (w' : World) : Prop :=
  Below w.heap.size w w' ∧ match R with
  | .ok (t, k) => e = .returned (.tuple #[tok t.kind ⟨t.text.toArray⟩ t.num 0, .int .i64 k, mish 0 0])
  | .bad c a => e = .returned (.tuple #[tok 0 ⟨#[]⟩ 0 0, .int .i64 0, mish c a])
def quoRes (i : Nat) : Res (Bs × Nat) → Res (Tk × Nat)
  | .ok (b, k) => .ok (⟨3, b, 0, i⟩, k)
  | .bad x y => .bad x y

theorem out35 {w : World} {tmps : Array Value} {g h : Nat} {a b c d x y : Value} (hH : Holds w g 34 [a, b, c, d]) (hK : Holds w h 26 [x, y])
    (h4 : tmps[4]?.getD undef = .pointer (some ⟨g, 0, none⟩)) (h6 : tmps[6]?.getD undef = .pointer (some ⟨h, 0, none⟩)) :
    (results Tryd.f35 tmps).run Tryd.prog w = .ok (.tuple #[.agg #[a, b, c, d], tmps.getD 5 undef, .agg #[x, y]]) w := by
  have c0 := hH.cell 0
  have c1 := hH.cell 1
  have c2 := hH.cell 2
  have c3 := hH.cell 3
  have d0 := hK.cell 0
  have d1 := hK.cell 1
  simp at c0 c1 c2 c3 d0 d1
  simp [results, Tryd.results35, h4, h6, go_sem, c0, c1, c2, c3, d0, d1]

/-- The two structs that are handed back, written. -/
theorem six {w wr : World} {W : Nat} {t : TypeId} {a b c d x y : Value} (hT : Holds wr W t [a, b, c, d]) (hM : Holds wr (W + 1) 26 [x, y]) (hB : Below W w wr) (a' b' c' d' x' y' : Value) :
    Holds ((((((wr.setCell ⟨W, 0, none⟩ a').setCell ⟨W, 1, none⟩ b').setCell ⟨W, 2, none⟩ c').setCell ⟨W, 3, none⟩ d').setCell ⟨W + 1, 0, none⟩ x').setCell ⟨W + 1, 1, none⟩ y') W t [a', b', c', d'] ∧
    Holds ((((((wr.setCell ⟨W, 0, none⟩ a').setCell ⟨W, 1, none⟩ b').setCell ⟨W, 2, none⟩ c').setCell ⟨W, 3, none⟩ d').setCell ⟨W + 1, 0, none⟩ x').setCell ⟨W + 1, 1, none⟩ y') (W + 1) 26 [x', y'] ∧
    Below W w ((((((wr.setCell ⟨W, 0, none⟩ a').setCell ⟨W, 1, none⟩ b').setCell ⟨W, 2, none⟩ c').setCell ⟨W, 3, none⟩ d').setCell ⟨W + 1, 0, none⟩ x').setCell ⟨W + 1, 1, none⟩ y') := by
  refine ⟨?_, ?_, ?_⟩
  · exact (((((hT.put 0 a').put 1 b').put 2 c').put 3 d').far (by simp) _).far (by simp) _
  · exact (((((hM.far (by simp) _).far (by simp) _).far (by simp) _).far (by simp) _).put 0 x').put 1 y'
  · exact (((((hB.setCell (Nat.le_refl _) _).setCell (Nat.le_refl _) _).setCell (Nat.le_refl _) _).setCell (Nat.le_refl _) _).setCell (Nat.le_succ _) _).setCell (Nat.le_succ _) _

theorem esc_some {c x : UInt8} (h : esc c = some x) : (c = 110 ∧ x = 10) ∨ (c = 116 ∧ x = 9) ∨ (c = 92 ∧ x = 92) ∨ (c = 34 ∧ x = 34) := by
  unfold esc at h
  repeat (split at h; · rename_i h1; injection h with h; subst h; simp [eq_of_beq h1])
  cases h
theorem esc_none {c : UInt8} (h : esc c = none) : (c == 110) = false ∧ (c == 116) = false ∧ (c == 92) = false ∧ (c == 34) = false := by
  unfold esc at h
  repeat (split at h; · cases h)
  simp_all

theorem own_push {w : World} {base : Nat} {v : Value} {acc : Bs} (c : UInt8) (h : w.ownsRow base 5 1 v (acc.length + 1) (bcells acc ++ [Value.int .u8 (c.toNat : Int)])) : w.ownsRow base 5 1 v (acc ++ [c]).length (bcells (acc ++ [c])) := by
  have e : (acc ++ [c]).length = acc.length + 1 := by simp
  rw [e, ← bcells_app]
  exact h

set_option maxHeartbeats 2000000 in
set_option maxRecDepth 100000 in
theorem refQuoted (s : ByteArray) (i : Nat) (hi : i < s.size) (hs : s.size ≤ 65536) (w : World) :
    Calls Tryd.prog 35 #[.string s, .int .i64 (i : Int)] w (TokPost (quoRes i (quo (i + 1) [] (rest s (i + 1)))) w) := by
  obtain ⟨R, hR⟩ : ∃ R, R = quo (i + 1) [] (rest s (i + 1)) := ⟨_, rfl⟩
  rw [← hR]
  have HR := Lib.hid hR
  clear hR
  go_enter Tryd.func35, Tryd.ntmps35
  go_wp2
  go_loopw [7, 8] (fun v n wr => ∃ (k : Nat) (acc : Bs), n = .int .i64 (k : Int) ∧ k ≤ s.size ∧ acc.length ≤ k ∧ Hid (R = quo k acc (rest s k)) ∧ wr.ownsRow w.heap.size 5 1 v acc.length (bcells acc) ∧ Holds wr w.heap.size 34 [.int .i64 0, .string ⟨#[]⟩, .int .i64 0, .int .i64 0] ∧ Holds wr (w.heap.size + 1) 26 [.int .i64 0, .int .i64 0] ∧ Below w.heap.size w wr) (fun _ n _ => (s.size + 10 - intOf n).toNat)
  case atStart =>
    exact ⟨i + 1, [], rfl, by omega, by simp, HR, ⟨rfl, .inl ⟨rfl, rfl⟩⟩, (Holds.new w _ _).alloc _, by have := Holds.new (w.alloc (.cells #[.int .i64 0, .string ⟨#[]⟩, .int .i64 0, .int .i64 0] 34)) 26 #[.int .i64 0, .int .i64 0]; simpa using this, ((Below.refl _ _).alloc (Nat.le_refl _) _).alloc (by simp) _⟩
  case round =>
    obtain ⟨k, acc, rfl, hk, hak, HK, hown, hT, hM, hB⟩ := hrel
    by_cases hl : k < s.size
    · by_cases hq : (s[k] == 34) = true
      · have hq' := (u8i s[k] 34).trans hq
        change ((s[k].toNat : Int) == 34) = true at hq'
        have HQ := Lib.hid (quo_close acc hl hq)
        clear hq
        have c0 := hT.cell 0
        have c1 := hT.cell 1
        have c2 := hT.cell 2
        have c3 := hT.cell 3
        have d0 := hM.cell 0
        have d1 := hM.cell 1
        have f0 := hT.free 0
        have f1 := hT.free 1
        have f2 := hT.free 2
        have f3 := hT.free 3
        have g0 := hM.free 0
        have g1 := hM.free 1
        simp at c0 c1 c2 c3 d0 d1
        have hcv := conv_own hown
        go_wp2_with (simp only [hcv])
        obtain ⟨h1, h2, h3⟩ := six hT hM hB (.int .i64 3) (.string ⟨acc.toArray⟩) (.int .i64 0) (.int .i64 0) (.int .i64 0) (.int .i64 0)
        exact bodyPost_ret (out35 h1 h2 rfl rfl) rfl ⟨h3, by rw [HK.out, HQ.out]; rfl⟩
      · have hq1 := eq_false_of_ne_true hq
        have hq' := (u8i s[k] 34).trans hq1
        change ((s[k].toNat : Int) == 34) = false at hq'
        clear hq
        by_cases hv : s[k].toNat < 32 ∨ 126 < s[k].toNat
        · have HQ := Lib.hid (quo_bad acc hl hq1 hv)
          have hv' : (decide ((s[k].toNat : Int) < 32) || decide (126 < (s[k].toNat : Int))) = true := by simp; omega
          have HE := Lib.hid hv
          clear hv hq1
          by_cases hv1 : (s[k].toNat : Int) < 32
          · go_wp2_with (fail)
            refine (refBad 22 k _).mono ?_
            rintro e w2 ⟨rfl, hb2⟩
            have hT2 := hT.belowAll hb2
            have hM2 := hM.belowAll hb2
            have hB2 := hB.trans (hb2.mono hB.size)
            have c0 := hT2.cell 0
            have c1 := hT2.cell 1
            have c2 := hT2.cell 2
            have c3 := hT2.cell 3
            have d0 := hM2.cell 0
            have d1 := hM2.cell 1
            have f0 := hT2.free 0
            have f1 := hT2.free 1
            have f2 := hT2.free 2
            have f3 := hT2.free 3
            have g0 := hM2.free 0
            have g1 := hM2.free 1
            simp at c0 c1 c2 c3 d0 d1
            unfold mish
            go_wp2
            obtain ⟨h1, h2, h3⟩ := six hT2 hM2 hB2 (.int .i64 0) (.string ⟨#[]⟩) (.int .i64 0) (.int .i64 0) (.int .i64 22) (.int .i64 (k : Nat))
            exact bodyPost_ret (out35 h1 h2 rfl rfl) rfl ⟨h3, by rw [HK.out, HQ.out]; rfl⟩
          · have hv2 : (126 : Int) < (s[k].toNat : Int) := by simpa [hv1] using hv'
            have hv3 : decide ((s[k].toNat : Int) < 32) = false := by simp; omega
            go_wp2_with (fail)
            refine (refBad 22 k _).mono ?_
            rintro e w2 ⟨rfl, hb2⟩
            have hT2 := hT.belowAll hb2
            have hM2 := hM.belowAll hb2
            have hB2 := hB.trans (hb2.mono hB.size)
            have c0 := hT2.cell 0
            have c1 := hT2.cell 1
            have c2 := hT2.cell 2
            have c3 := hT2.cell 3
            have d0 := hM2.cell 0
            have d1 := hM2.cell 1
            have f0 := hT2.free 0
            have f1 := hT2.free 1
            have f2 := hT2.free 2
            have f3 := hT2.free 3
            have g0 := hM2.free 0
            have g1 := hM2.free 1
            simp at c0 c1 c2 c3 d0 d1
            unfold mish
            go_wp2
            obtain ⟨h1, h2, h3⟩ := six hT2 hM2 hB2 (.int .i64 0) (.string ⟨#[]⟩) (.int .i64 0) (.int .i64 0) (.int .i64 22) (.int .i64 (k : Nat))
            exact bodyPost_ret (out35 h1 h2 rfl rfl) rfl ⟨h3, by rw [HK.out, HQ.out]; rfl⟩
        · have hv1 : decide ((s[k].toNat : Int) < 32) = false := by simp; omega
          have hv2 : decide ((126 : Int) < (s[k].toNat : Int)) = false := by simp; omega
          have HV := Lib.hid hv
          have HQ1 := Lib.hid hq1
          clear hv hq1
          by_cases h92 : (s[k] == 92) = true
          · have h92' := (u8i s[k] 92).trans h92
            change ((s[k].toNat : Int) == 92) = true at h92'
            have H92 := Lib.hid h92
            clear h92
            by_cases hm : k + 1 < s.size
            · skip
              by_cases hc : (s[k + 1] == 110) = true
              · have hc' := (u8i s[k + 1] 110).trans hc
                change ((s[k + 1].toNat : Int) == 110) = true at hc'
                have HS := Lib.hid (quo_esc acc 10 hm H92.out (by rw [eq_of_beq hc]; rfl))
                clear hc
                obtain ⟨i0, hi0, hz0, hz1, hz2⟩ := info_parts Tryd.info5
                go_wp2_with (at_builtin; refine wpList_append_own_at _ rfl (.tmp 45) (.tmp 47) _ rfl w.heap.size 5 i0 _ 1 1 Tryd.underlying59 hi0 hz0 hz1 hz2 rfl (by omega) u7 acc.length (bcells acc) rfl (hown.alloc _) ⟨wr.heap.size, 0, none⟩ 1 1 [.int .u8 10] rfl rfl ?c1 ?c2 ?c3 ?c4 ?c5 ?_)
                case c1 => exact cell_one_new _ _ _
                case c2 => simp [Value.oneCell']
                case c3 => unfold maxLen; omega
                case c4 => omega
                case c5 => have := hB.size; simp at this ⊢; omega
                intro v' w2 hown2 hgrow _ _
                have hTa := own_kept (hown.alloc (.cells #[.int .u8 10] 5)) hgrow (hT.alloc _) (by decide)
                have hMa := own_kept (hown.alloc (.cells #[.int .u8 10] 5)) hgrow (hM.alloc _) (by decide)
                have hBa := below_own (hB.alloc hB.size (.cells #[.int .u8 10] 5)) (hown.alloc _) hgrow
                go_wp2
                exact ⟨⟨k + 2, acc ++ [10], rfl, by omega, by simp; omega, (by rw [HK.out]; exact HS.out), own_push 10 hown2, hTa, hMa, hBa⟩, by simp [intOf]; omega⟩
              · have hn0 := eq_false_of_ne_true hc
                have hn0' := (u8i s[k + 1] 110).trans hn0
                change ((s[k + 1].toNat : Int) == 110) = false at hn0'
                have HN0 := Lib.hid hn0
                clear hc hn0
                by_cases hc : (s[k + 1] == 116) = true
                · have hc' := (u8i s[k + 1] 116).trans hc
                  change ((s[k + 1].toNat : Int) == 116) = true at hc'
                  have HS := Lib.hid (quo_esc acc 9 hm H92.out (by rw [eq_of_beq hc]; rfl))
                  clear hc
                  obtain ⟨i0, hi0, hz0, hz1, hz2⟩ := info_parts Tryd.info5
                  go_wp2_with (at_builtin; refine wpList_append_own_at _ rfl (.tmp 45) (.tmp 47) _ rfl w.heap.size 5 i0 _ 1 1 Tryd.underlying59 hi0 hz0 hz1 hz2 rfl (by omega) u7 acc.length (bcells acc) rfl (hown.alloc _) ⟨wr.heap.size, 0, none⟩ 1 1 [.int .u8 9] rfl rfl ?c1 ?c2 ?c3 ?c4 ?c5 ?_)
                  case c1 => exact cell_one_new _ _ _
                  case c2 => simp [Value.oneCell']
                  case c3 => unfold maxLen; omega
                  case c4 => omega
                  case c5 => have := hB.size; simp at this ⊢; omega
                  intro v' w2 hown2 hgrow _ _
                  have hTa := own_kept (hown.alloc (.cells #[.int .u8 9] 5)) hgrow (hT.alloc _) (by decide)
                  have hMa := own_kept (hown.alloc (.cells #[.int .u8 9] 5)) hgrow (hM.alloc _) (by decide)
                  have hBa := below_own (hB.alloc hB.size (.cells #[.int .u8 9] 5)) (hown.alloc _) hgrow
                  go_wp2
                  exact ⟨⟨k + 2, acc ++ [9], rfl, by omega, by simp; omega, (by rw [HK.out]; exact HS.out), own_push 9 hown2, hTa, hMa, hBa⟩, by simp [intOf]; omega⟩
                · have hn1 := eq_false_of_ne_true hc
                  have hn1' := (u8i s[k + 1] 116).trans hn1
                  change ((s[k + 1].toNat : Int) == 116) = false at hn1'
                  have HN1 := Lib.hid hn1
                  clear hc hn1
                  by_cases hc : (s[k + 1] == 92) = true
                  · have hc' := (u8i s[k + 1] 92).trans hc
                    change ((s[k + 1].toNat : Int) == 92) = true at hc'
                    have HS := Lib.hid (quo_esc acc s[k + 1] hm H92.out (by rw [eq_of_beq hc]; rfl))
                    clear hc
                    obtain ⟨i0, hi0, hz0, hz1, hz2⟩ := info_parts Tryd.info5
                    go_wp2_with (at_builtin; refine wpList_append_own_at _ rfl (.tmp 45) (.tmp 47) _ rfl w.heap.size 5 i0 _ 1 1 Tryd.underlying59 hi0 hz0 hz1 hz2 rfl (by omega) u7 acc.length (bcells acc) rfl (hown.alloc _) ⟨wr.heap.size, 0, none⟩ 1 1 [.int .u8 (s[k + 1].toNat : Int)] rfl rfl ?c1 ?c2 ?c3 ?c4 ?c5 ?_)
                    case c1 => exact cell_one_new _ _ _
                    case c2 => simp [Value.oneCell']
                    case c3 => unfold maxLen; omega
                    case c4 => omega
                    case c5 => have := hB.size; simp at this ⊢; omega
                    intro v' w2 hown2 hgrow _ _
                    have hTa := own_kept (hown.alloc (.cells #[.int .u8 (s[k + 1].toNat : Int)] 5)) hgrow (hT.alloc _) (by decide)
                    have hMa := own_kept (hown.alloc (.cells #[.int .u8 (s[k + 1].toNat : Int)] 5)) hgrow (hM.alloc _) (by decide)
                    have hBa := below_own (hB.alloc hB.size (.cells #[.int .u8 (s[k + 1].toNat : Int)] 5)) (hown.alloc _) hgrow
                    go_wp2
                    exact ⟨⟨k + 2, acc ++ [s[k + 1]], rfl, by omega, by simp; omega, (by rw [HK.out]; exact HS.out), own_push s[k + 1] hown2, hTa, hMa, hBa⟩, by simp [intOf]; omega⟩
                  · have hn2 := eq_false_of_ne_true hc
                    have hn2' := (u8i s[k + 1] 92).trans hn2
                    change ((s[k + 1].toNat : Int) == 92) = false at hn2'
                    have HN2 := Lib.hid hn2
                    clear hc hn2
                    by_cases hc : (s[k + 1] == 34) = true
                    · have hc' := (u8i s[k + 1] 34).trans hc
                      change ((s[k + 1].toNat : Int) == 34) = true at hc'
                      have HS := Lib.hid (quo_esc acc s[k + 1] hm H92.out (by rw [eq_of_beq hc]; rfl))
                      clear hc
                      obtain ⟨i0, hi0, hz0, hz1, hz2⟩ := info_parts Tryd.info5
                      go_wp2_with (at_builtin; refine wpList_append_own_at _ rfl (.tmp 45) (.tmp 47) _ rfl w.heap.size 5 i0 _ 1 1 Tryd.underlying59 hi0 hz0 hz1 hz2 rfl (by omega) u7 acc.length (bcells acc) rfl (hown.alloc _) ⟨wr.heap.size, 0, none⟩ 1 1 [.int .u8 (s[k + 1].toNat : Int)] rfl rfl ?c1 ?c2 ?c3 ?c4 ?c5 ?_)
                      case c1 => exact cell_one_new _ _ _
                      case c2 => simp [Value.oneCell']
                      case c3 => unfold maxLen; omega
                      case c4 => omega
                      case c5 => have := hB.size; simp at this ⊢; omega
                      intro v' w2 hown2 hgrow _ _
                      have hTa := own_kept (hown.alloc (.cells #[.int .u8 (s[k + 1].toNat : Int)] 5)) hgrow (hT.alloc _) (by decide)
                      have hMa := own_kept (hown.alloc (.cells #[.int .u8 (s[k + 1].toNat : Int)] 5)) hgrow (hM.alloc _) (by decide)
                      have hBa := below_own (hB.alloc hB.size (.cells #[.int .u8 (s[k + 1].toNat : Int)] 5)) (hown.alloc _) hgrow
                      go_wp2
                      exact ⟨⟨k + 2, acc ++ [s[k + 1]], rfl, by omega, by simp; omega, (by rw [HK.out]; exact HS.out), own_push s[k + 1] hown2, hTa, hMa, hBa⟩, by simp [intOf]; omega⟩
                    · have hn3 := eq_false_of_ne_true hc
                      have hn3' := (u8i s[k + 1] 34).trans hn3
                      change ((s[k + 1].toNat : Int) == 34) = false at hn3'
                      have HN3 := Lib.hid hn3
                      clear hc hn3
                      have HS := Lib.hid (quo_esc_bad acc hl H92.out (fun _ => by simp [esc, HN0.out, HN1.out, HN2.out, HN3.out]))
                      go_wp2_with (fail)
                      refine (refBad 22 k _).mono ?_
                      rintro e w2 ⟨rfl, hb2⟩
                      have hT2 := hT.belowAll hb2
                      have hM2 := hM.belowAll hb2
                      have hB2 := hB.trans (hb2.mono hB.size)
                      have c0 := hT2.cell 0
                      have c1 := hT2.cell 1
                      have c2 := hT2.cell 2
                      have c3 := hT2.cell 3
                      have d0 := hM2.cell 0
                      have d1 := hM2.cell 1
                      have f0 := hT2.free 0
                      have f1 := hT2.free 1
                      have f2 := hT2.free 2
                      have f3 := hT2.free 3
                      have g0 := hM2.free 0
                      have g1 := hM2.free 1
                      simp at c0 c1 c2 c3 d0 d1
                      unfold mish
                      go_wp2
                      obtain ⟨h1, h2, h3⟩ := six hT2 hM2 hB2 (.int .i64 0) (.string ⟨#[]⟩) (.int .i64 0) (.int .i64 0) (.int .i64 22) (.int .i64 (k : Nat))
                      exact bodyPost_ret (out35 h1 h2 rfl rfl) rfl ⟨h3, by rw [HK.out, HS.out]; rfl⟩
            · have hm' : decide ((k : Int) + 1 < (s.size : Int)) = false := by simp; omega
              have HS := Lib.hid (quo_esc_bad acc hl H92.out (fun h => absurd h hm))
              go_wp2_with (fail)
              refine (refBad 22 k _).mono ?_
              rintro e w2 ⟨rfl, hb2⟩
              have hT2 := hT.belowAll hb2
              have hM2 := hM.belowAll hb2
              have hB2 := hB.trans (hb2.mono hB.size)
              have c0 := hT2.cell 0
              have c1 := hT2.cell 1
              have c2 := hT2.cell 2
              have c3 := hT2.cell 3
              have d0 := hM2.cell 0
              have d1 := hM2.cell 1
              have f0 := hT2.free 0
              have f1 := hT2.free 1
              have f2 := hT2.free 2
              have f3 := hT2.free 3
              have g0 := hM2.free 0
              have g1 := hM2.free 1
              simp at c0 c1 c2 c3 d0 d1
              unfold mish
              go_wp2
              obtain ⟨h1, h2, h3⟩ := six hT2 hM2 hB2 (.int .i64 0) (.string ⟨#[]⟩) (.int .i64 0) (.int .i64 0) (.int .i64 22) (.int .i64 (k : Nat))
              exact bodyPost_ret (out35 h1 h2 rfl rfl) rfl ⟨h3, by rw [HK.out, HS.out]; rfl⟩
          · have h92b := eq_false_of_ne_true h92
            have h92' := (u8i s[k] 92).trans h92b
            change ((s[k].toNat : Int) == 92) = false at h92'
            have HS := Lib.hid (quo_step acc hl HQ1.out HV.out h92b)
            clear h92 h92b
            obtain ⟨i0, hi0, hz0, hz1, hz2⟩ := info_parts Tryd.info5
            go_wp2_with (at_builtin; refine wpList_append_own_at _ rfl (.tmp 73) (.tmp 75) _ rfl w.heap.size 5 i0 _ 1 1 Tryd.underlying59 hi0 hz0 hz1 hz2 rfl (by omega) u7 acc.length (bcells acc) rfl (hown.alloc _) ⟨wr.heap.size, 0, none⟩ 1 1 [.int .u8 (s[k].toNat : Int)] rfl rfl ?c1 ?c2 ?c3 ?c4 ?c5 ?_)
            case c1 => exact cell_one_new _ _ _
            case c2 => simp [Value.oneCell']
            case c3 => unfold maxLen; omega
            case c4 => omega
            case c5 => have := hB.size; simp at this ⊢; omega
            intro v' w2 hown2 hgrow _ _
            have hTa := own_kept (hown.alloc (.cells #[.int .u8 (s[k].toNat : Int)] 5)) hgrow (hT.alloc _) (by decide)
            have hMa := own_kept (hown.alloc (.cells #[.int .u8 (s[k].toNat : Int)] 5)) hgrow (hM.alloc _) (by decide)
            have hBa := below_own (hB.alloc hB.size (.cells #[.int .u8 (s[k].toNat : Int)] 5)) (hown.alloc _) hgrow
            go_wp2
            exact ⟨⟨k + 1, acc ++ [s[k]], rfl, by omega, by simp; omega, (by rw [HK.out]; exact HS.out), own_push s[k] hown2, hTa, hMa, hBa⟩, by simp [intOf]; omega⟩
    · have hl' : decide ((k : Int) < (s.size : Int)) = false := by simp; omega
      have HS := Lib.hid (quo_end (s := s) (i := k) acc (by omega))
      go_wp2_with (fail)
      refine (refBad 21 s.size _).mono ?_
      rintro e w2 ⟨rfl, hb2⟩
      have hT2 := hT.belowAll hb2
      have hM2 := hM.belowAll hb2
      have hB2 := hB.trans (hb2.mono hB.size)
      have c0 := hT2.cell 0
      have c1 := hT2.cell 1
      have c2 := hT2.cell 2
      have c3 := hT2.cell 3
      have d0 := hM2.cell 0
      have d1 := hM2.cell 1
      have f0 := hT2.free 0
      have f1 := hT2.free 1
      have f2 := hT2.free 2
      have f3 := hT2.free 3
      have g0 := hM2.free 0
      have g1 := hM2.free 1
      simp at c0 c1 c2 c3 d0 d1
      unfold mish
      go_wp2
      obtain ⟨h1, h2, h3⟩ := six hT2 hM2 hB2 (.int .i64 0) (.string ⟨#[]⟩) (.int .i64 0) (.int .i64 0) (.int .i64 21) (.int .i64 (s.size : Nat))
      exact bodyPost_ret (out35 h1 h2 rfl rfl) rfl ⟨h3, by rw [HK.out, HS.out]; rfl⟩
end Go.Proofs.YtndcbbhfhcjadaaDoor
