/- Cat, CatI, joined. -/
import Derived.Test.YtelanndleinabaaDoorSmall
import Derived.Lib.AppendZerosOnto
import Derived.Laws.AppendOwnNone
section
/- The walks of slices.Grow and slices.Concat over letters. -/
namespace Go.Proofs.YtelanndleinabaaDoor
open Go.RowKit
set_option linter.unusedVariables false

theorem Tryd.info49 : (Tryd.prog.info? 49).map (fun i => (i.zero, i.size, i.bytes)) = some (some (.int .u64 0), 1, 8) := by kernel_rfl

set_option maxHeartbeats 1000000 in
set_option maxRecDepth 100000 in
theorem growU (n : Nat) (h0 : 0 < n) (hn : n ≤ 8192) (w : World) : Calls Tryd.prog 39 #[.slice none 0 0, .int .i64 (n : Int)] w fun e w' => ∃ v, e = .returned v ∧ w'.ownsRow w.heap.size 49 1 v 0 [] ∧ Below w.heap.size w w' := by
  have hb8 : Tryd.t49.bytes = 8 := rfl
  have hx1 : (n : Int) * (Tryd.t49.bytes : Int) ≤ 281474976710656 := by rw [hb8]; omega
  have hx2 : ¬ 281474976710656 < Builtin.nextslicecap n 0 * Tryd.t49.bytes := by
    rw [hb8]; unfold Builtin.nextslicecap; split <;> omega
  have hn0 : (0 : Int) < (n : Int) := by omega
  have hn1 : decide ((n : Int) < 0) = false := decide_eq_false (by omega)
  have hnz : ¬ n = 0 := by omega
  have hG := grownCap_ge w n 0 49
  have hG2 := grownCap_le_maxLen w n 0 49 (by unfold maxLen; omega)
  clear hb8
  go_enter Tryd.func39, Tryd.ntmps39
  go_wp2
  go_ret
  have hz : ∀ k, (Builtin.zeroCells #[Value.int .u64 0] k).size = k := fun k => by simp [Builtin.zeroCells]
  refine ⟨_, rfl, ⟨rfl, .inr ⟨w.heap.size, grownCap w n 0 49, _, rfl, Nat.le_refl _, heap_alloc_new w _, Nat.zero_le _, hG2, ?_, by simp⟩⟩, ((Below.refl _ _).alloc (Nat.le_refl _) _).drew⟩
  rw [Array.size_append, hz, hz]
  show n + (grownCap w n 0 49 - n) = _
  omega
theorem cell_kept {B : Nat} {w w' : World} (hb : Below B w w') {p : Addr} (hp : p.block < B) : w'.cell? p = w.cell? p := by simp [World.cell?, hb.block _ hp]
theorem news_kept {w w' : World} (hb : Below w.heap.size w w') {ad : Addr} {news : List Value} (h : ∀ j u, news[j]? = some u → w.cell? (ad.add j) = some u) : ∀ j u, news[j]? = some u → w'.cell? (ad.add j) = some u :=
  fun j u hu => (cell_kept hb (World.block_lt_of_cell? w _ (h j u hu))).trans (h j u hu)
theorem u64s_one (xs : List Nat) : ∀ u ∈ u64s xs, u.oneCell' = true := by
  intro u hu
  obtain ⟨z, _, rfl⟩ := List.mem_map.1 hu
  rfl
theorem u64s_len (xs : List Nat) : (u64s xs).length = xs.length := by simp [u64s]
theorem u64s_app (xs ys : List Nat) : u64s xs ++ u64s ys = u64s (xs ++ ys) := by simp [u64s]

def accOf (xs ys : List Nat) (k : Nat) : List Nat := if k = 0 then [] else if k = 1 then xs else xs ++ ys

set_option maxHeartbeats 4000000 in
set_option maxRecDepth 100000 in
theorem concatU (b : Nat) (v1 v2 : Value) (xs ys : List Nat) (w : World) (hc0 : w.cell? ⟨b, 0, none⟩ = some v1) (hc1 : w.cell? ⟨b, 1, none⟩ = some v2) (hb : b < w.heap.size) (h1 : RowU w.heap.size w v1 xs) (h2 : RowU w.heap.size w v2 ys)
    (h0 : 0 < xs.length + ys.length) (hl : xs.length + ys.length ≤ 8192) :
    Calls Tryd.prog 25 #[.slice (some ⟨b, 0, none⟩) 2 2] w fun e w' => ∃ v, e = .returned v ∧ w'.ownsRow w.heap.size 49 1 v (xs ++ ys).length (u64s (xs ++ ys)) ∧ Below w.heap.size w w' := by
  obtain ⟨a1, cap1, hv1, hcc1, hm1⟩ := h1.form
  obtain ⟨a2, cap2, hv2, hcc2, hm2⟩ := h2.form
  have HV1 := Lib.hid hv1
  have HV2 := Lib.hid hv2
  have H1 := Lib.hid h1
  have H2 := Lib.hid h2
  clear h1 h2
  rw [hv1] at hc0
  rw [hv2] at hc1
  clear hv1 hv2
  obtain ⟨n1, hn1⟩ : ∃ n, xs.length = n := ⟨_, rfl⟩
  obtain ⟨n2, hn2⟩ : ∃ n, ys.length = n := ⟨_, rfl⟩
  rw [hn1] at hc0 hcc1 h0 hl
  rw [hn2] at hc1 hcc2 h0 hl
  have HN1 := Lib.hid hn1
  have HN2 := Lib.hid hn2
  have LA0 : Hid ((accOf xs ys 0).length = 0) := rfl
  have LA1 : Hid ((accOf xs ys 1).length = n1) := hn1
  clear hn1 hn2
  have hG : Hid (∀ w, Calls Tryd.prog 39 #[.slice none 0 0, .int .i64 ((n1 : Int) + (n2 : Int))] w fun e w' => ∃ v, e = .returned v ∧ w'.ownsRow w.heap.size 49 1 v 0 [] ∧ Below w.heap.size w w') := fun w => by
    have := growU (n1 + n2) (by omega) (by omega) w
    rwa [Int.natCast_add] at this
  have hs8 : (n1 : Int) + (n2 : Int) ≤ 8192 := by omega
  have hs0 : (0 : Int) ≤ (n1 : Int) + (n2 : Int) := by omega
  go_enter Tryd.func25, Tryd.ntmps25
  go_wp2
  go_loopw [3, 11] (fun z x wr => ∃ k : Nat, x = .int .i64 (k : Int) ∧ k ≤ 2 ∧ z = .int .i64 ((if k = 0 then 0 else if k = 1 then n1 else n1 + n2 : Nat) : Int) ∧ wr = w) (fun _ x _ => (10 - intOf x).toNat)
  case atStart => exact ⟨0, rfl, by omega, rfl, rfl⟩
  case round =>
    obtain ⟨k, rfl, hk, rfl, hw⟩ := hrel
    have hw' := hw.symm
    subst hw'
    obtain rfl | rfl | rfl : k = 0 ∨ k = 1 ∨ k = 2 := by omega
    · go_wp2
      exact ⟨⟨1, rfl, by omega, by simp, trivial⟩, by simp [intOf]⟩
    · go_wp2
      exact ⟨⟨2, rfl, by omega, by simp, trivial⟩, by simp [intOf]⟩
    · go_wp2_with (fail)
      refine (hG.out _).mono ?_
      rintro e w2 ⟨v, rfl, hown, hB⟩
      have hform := owns_form hown
      obtain ⟨a3, cap3, rfl, hcc3, hm3⟩ := hform
      go_wp2
      go_loopw [6, 27] (fun v x wr' => ∃ k : Nat, x = .int .i64 (k : Int) ∧ k ≤ 2 ∧ wr'.ownsRow w.heap.size 49 1 v (accOf xs ys k).length (u64s (accOf xs ys k)) ∧ Below w.heap.size w wr') (fun _ x _ => (10 - intOf x).toNat)
      case atStart => exact ⟨0, rfl, by omega, hown, hB⟩
      case round =>
        clear hown hB
        obtain ⟨k, rfl, hk, hown, hB⟩ := hrel
        have e0 := (cell_below hB hb 0).trans hc0
        have e1 := (cell_below hB hb 1).trans hc1
        obtain rfl | rfl | rfl : k = 0 ∨ k = 1 ∨ k = 2 := by omega
        · obtain ⟨i0, hi0, hz0, hz1, hz2⟩ := info_parts Tryd.info49
          rcases (H1.out).1.source with ⟨hnv, hnz⟩ | ⟨ad, cap, hsv, hfl, hcs⟩
          · have hnil : xs = [] := List.length_eq_zero_iff.1 hnz
            have he := HV1.out.symm.trans hnv
            rw [HN1.out] at he
            injection he with q1 q2 q3
            subst q1 q3
            have hz0 : Value.slice none n1 0 = .slice none 0 0 := by rw [q2]
            have HZ0 := Lib.hid hz0
            clear hz0 q2
            have hacc : accOf xs ys 0 = accOf xs ys 1 := by simp [accOf, hnil]
            go_wp2_with (at_builtin; refine wpList_append_own_none rfl (.tmp 31) (.tmp 32) _ rfl w.heap.size 49 i0 1 Tryd.underlying26 hi0 u6 _ _ rfl hown HZ0.out ?_)
            exact ⟨⟨1, rfl, by omega, (by rw [← hacc]; exact hown), hB⟩, by simp [intOf]⟩
          · have he := HV1.out.symm.trans hsv
            rw [HN1.out] at he
            injection he with q1 q2 q3
            subst q1 q3
            clear q2
            clear hfl
            have hla : (accOf xs ys 0).length ≤ 8192 := by rw [LA0.out]; omega
            have hacc : accOf xs ys 1 = accOf xs ys 0 ++ xs := by simp [accOf]
            have HNEWS := Lib.hid (news_kept hB hcs)
            clear hcs
            have hla2 : (accOf xs ys 0).length + n1 ≤ 8192 := by rw [LA0.out]; omega
            have hacl : (accOf xs ys 1).length = (accOf xs ys 0).length + n1 := by rw [hacc, List.length_append, HN1.out]
            have HAC := Lib.hid hacc
            have HACL := Lib.hid hacl
            clear hacc hacl
            go_wp2_with (at_builtin; refine wpList_append_own_at _ rfl (.tmp 31) (.tmp 32) _ rfl w.heap.size 49 i0 _ 1 8 Tryd.underlying26 hi0 hz0 hz1 hz2 rfl (by omega) u6 _ _ rfl hown ad n1 cap1 (u64s xs) rfl (by rw [u64s_len, HN1.out]; omega) HNEWS.out (u64s_one xs) ?c3 ?c4 hB.size ?_)
            case c3 => unfold maxLen; omega
            case c4 => omega
            intro v' w5 hown5 hgrow _ _
            have hB5 := below_own hB hown hgrow
            go_wp2
            exact ⟨⟨1, rfl, by omega, (by rw [HACL.out, HAC.out, ← u64s_app]; exact hown5), hB5⟩, by simp [intOf]⟩
        · obtain ⟨i0, hi0, hz0, hz1, hz2⟩ := info_parts Tryd.info49
          rcases (H2.out).1.source with ⟨hnv, hnz⟩ | ⟨ad, cap, hsv, hfl, hcs⟩
          · have hnil : ys = [] := List.length_eq_zero_iff.1 hnz
            have he := HV2.out.symm.trans hnv
            rw [HN2.out] at he
            injection he with q1 q2 q3
            subst q1 q3
            have hz0 : Value.slice none n2 0 = .slice none 0 0 := by rw [q2]
            have HZ0 := Lib.hid hz0
            clear hz0 q2
            have hacc : accOf xs ys 1 = accOf xs ys 2 := by simp [accOf, hnil]
            go_wp2_with (at_builtin; refine wpList_append_own_none rfl (.tmp 31) (.tmp 32) _ rfl w.heap.size 49 i0 1 Tryd.underlying26 hi0 u6 _ _ rfl hown HZ0.out ?_)
            exact ⟨⟨2, rfl, by omega, (by rw [← hacc]; exact hown), hB⟩, by simp [intOf]⟩
          · have he := HV2.out.symm.trans hsv
            rw [HN2.out] at he
            injection he with q1 q2 q3
            subst q1 q3
            clear q2
            clear hfl
            have hla : (accOf xs ys 1).length ≤ 8192 := by rw [LA1.out]; omega
            have hacc : accOf xs ys 2 = accOf xs ys 1 ++ ys := by simp [accOf]
            have HNEWS := Lib.hid (news_kept hB hcs)
            clear hcs
            have hla2 : (accOf xs ys 1).length + n2 ≤ 8192 := by rw [LA1.out]; omega
            have hacl : (accOf xs ys 2).length = (accOf xs ys 1).length + n2 := by rw [hacc, List.length_append, HN2.out]
            have HAC := Lib.hid hacc
            have HACL := Lib.hid hacl
            clear hacc hacl
            go_wp2_with (at_builtin; refine wpList_append_own_at _ rfl (.tmp 31) (.tmp 32) _ rfl w.heap.size 49 i0 _ 1 8 Tryd.underlying26 hi0 hz0 hz1 hz2 rfl (by omega) u6 _ _ rfl hown ad n2 cap2 (u64s ys) rfl (by rw [u64s_len, HN2.out]; omega) HNEWS.out (u64s_one ys) ?c3 ?c4 hB.size ?_)
            case c3 => unfold maxLen; omega
            case c4 => omega
            intro v' w5 hown5 hgrow _ _
            have hB5 := below_own hB hown hgrow
            go_wp2
            exact ⟨⟨2, rfl, by omega, (by rw [HACL.out, HAC.out, ← u64s_app]; exact hown5), hB5⟩, by simp [intOf]⟩
        · go_wp2
          go_ret
          exact ⟨_, rfl, hown, hB⟩
end Go.Proofs.YtelanndleinabaaDoor
end
section
/- The walks of slices.Grow and slices.Concat over ints (printed from the text over letters by mkcati.py). -/
namespace Go.Proofs.YtelanndleinabaaDoor
open Go.RowKit
set_option linter.unusedVariables false

theorem Tryd.info3i : (Tryd.prog.info? 3).map (fun i => (i.zero, i.size, i.bytes)) = some (some (.int .i64 0), 1, 8) := by kernel_rfl

set_option maxHeartbeats 1000000 in
set_option maxRecDepth 100000 in
theorem growI0 (n : Nat) (h0 : 0 < n) (hn : n ≤ 8192) (w : World) : Calls Tryd.prog 64 #[.slice none 0 0, .int .i64 (n : Int)] w fun e w' => ∃ v, e = .returned v ∧ w'.ownsRow w.heap.size 3 1 v 0 [] ∧ Below w.heap.size w w' := by
  have hb8 : Tryd.t3.bytes = 8 := rfl
  have hx1 : (n : Int) * (Tryd.t3.bytes : Int) ≤ 281474976710656 := by rw [hb8]; omega
  have hx2 : ¬ 281474976710656 < Builtin.nextslicecap n 0 * Tryd.t3.bytes := by
    rw [hb8]; unfold Builtin.nextslicecap; split <;> omega
  have hn0 : (0 : Int) < (n : Int) := by omega
  have hn1 : decide ((n : Int) < 0) = false := decide_eq_false (by omega)
  have hnz : ¬ n = 0 := by omega
  have hG := grownCap_ge w n 0 3
  have hG2 := grownCap_le_maxLen w n 0 3 (by unfold maxLen; omega)
  clear hb8
  go_enter Tryd.func64, Tryd.ntmps64
  go_wp2
  go_ret
  have hz : ∀ k, (Builtin.zeroCells #[Value.int .i64 0] k).size = k := fun k => by simp [Builtin.zeroCells]
  refine ⟨_, rfl, ⟨rfl, .inr ⟨w.heap.size, grownCap w n 0 3, _, rfl, Nat.le_refl _, heap_alloc_new w _, Nat.zero_le _, hG2, ?_, by simp⟩⟩, ((Below.refl _ _).alloc (Nat.le_refl _) _).drew⟩
  rw [Array.size_append, hz, hz]
  show n + (grownCap w n 0 3 - n) = _
  omega
set_option maxRecDepth 100000 in
theorem growI (n : Nat) (hn : n ≤ 8192) (w : World) : Calls Tryd.prog 64 #[.slice none 0 0, .int .i64 (n : Int)] w fun e w' => ∃ v, e = .returned v ∧ w'.ownsRow w.heap.size 3 1 v 0 [] ∧ Below w.heap.size w w' := by
  rcases Nat.eq_zero_or_pos n with h | h
  · subst h
    go_enter Tryd.func64, Tryd.ntmps64
    go_wp2
    go_ret
    exact ⟨_, rfl, ⟨rfl, .inl ⟨rfl, rfl⟩⟩, Below.refl _ _⟩
  · exact growI0 n h hn w
theorem ints_one (xs : List Int) : ∀ u ∈ ints xs, u.oneCell' = true := by
  intro u hu
  obtain ⟨z, _, rfl⟩ := List.mem_map.1 hu
  rfl
theorem ints_len (xs : List Int) : (ints xs).length = xs.length := by simp [ints]
theorem ints_app (xs ys : List Int) : ints xs ++ ints ys = ints (xs ++ ys) := by simp [ints]

def accOfI (xs ys : List Int) (k : Nat) : List Int := if k = 0 then [] else if k = 1 then xs else xs ++ ys

set_option maxHeartbeats 4000000 in
set_option maxRecDepth 100000 in
theorem concatI (b : Nat) (v1 v2 : Value) (xs ys : List Int) (w : World) (hc0 : w.cell? ⟨b, 0, none⟩ = some v1) (hc1 : w.cell? ⟨b, 1, none⟩ = some v2) (hb : b < w.heap.size) (h1 : RowI w.heap.size w v1 xs) (h2 : RowI w.heap.size w v2 ys)
    (hl : xs.length + ys.length ≤ 8192) :
    Calls Tryd.prog 56 #[.slice (some ⟨b, 0, none⟩) 2 2] w fun e w' => ∃ v, e = .returned v ∧ w'.ownsRow w.heap.size 3 1 v (xs ++ ys).length (ints (xs ++ ys)) ∧ Below w.heap.size w w' := by
  obtain ⟨a1, cap1, hv1, hcc1, hm1⟩ := h1.form
  obtain ⟨a2, cap2, hv2, hcc2, hm2⟩ := h2.form
  have HV1 := Lib.hid hv1
  have HV2 := Lib.hid hv2
  have H1 := Lib.hid h1
  have H2 := Lib.hid h2
  clear h1 h2
  rw [hv1] at hc0
  rw [hv2] at hc1
  clear hv1 hv2
  obtain ⟨n1, hn1⟩ : ∃ n, xs.length = n := ⟨_, rfl⟩
  obtain ⟨n2, hn2⟩ : ∃ n, ys.length = n := ⟨_, rfl⟩
  rw [hn1] at hc0 hcc1 hl
  rw [hn2] at hc1 hcc2 hl
  have HN1 := Lib.hid hn1
  have HN2 := Lib.hid hn2
  have LA0 : Hid ((accOfI xs ys 0).length = 0) := rfl
  have LA1 : Hid ((accOfI xs ys 1).length = n1) := hn1
  clear hn1 hn2
  have hG : Hid (∀ w, Calls Tryd.prog 64 #[.slice none 0 0, .int .i64 ((n1 : Int) + (n2 : Int))] w fun e w' => ∃ v, e = .returned v ∧ w'.ownsRow w.heap.size 3 1 v 0 [] ∧ Below w.heap.size w w') := fun w => by
    have := growI (n1 + n2) (by omega) w
    rwa [Int.natCast_add] at this
  have hs8 : (n1 : Int) + (n2 : Int) ≤ 8192 := by omega
  have hs0 : (0 : Int) ≤ (n1 : Int) + (n2 : Int) := by omega
  go_enter Tryd.func56, Tryd.ntmps56
  go_wp2
  go_loopw [3, 11] (fun z x wr => ∃ k : Nat, x = .int .i64 (k : Int) ∧ k ≤ 2 ∧ z = .int .i64 ((if k = 0 then 0 else if k = 1 then n1 else n1 + n2 : Nat) : Int) ∧ wr = w) (fun _ x _ => (10 - intOf x).toNat)
  case atStart => exact ⟨0, rfl, by omega, rfl, rfl⟩
  case round =>
    obtain ⟨k, rfl, hk, rfl, hw⟩ := hrel
    have hw' := hw.symm
    subst hw'
    obtain rfl | rfl | rfl : k = 0 ∨ k = 1 ∨ k = 2 := by omega
    · go_wp2
      exact ⟨⟨1, rfl, by omega, by simp, trivial⟩, by simp [intOf]⟩
    · go_wp2
      exact ⟨⟨2, rfl, by omega, by simp, trivial⟩, by simp [intOf]⟩
    · go_wp2_with (fail)
      refine (hG.out _).mono ?_
      rintro e w2 ⟨v, rfl, hown, hB⟩
      have hform := owns_form hown
      obtain ⟨a3, cap3, rfl, hcc3, hm3⟩ := hform
      go_wp2
      go_loopw [6, 27] (fun v x wr' => ∃ k : Nat, x = .int .i64 (k : Int) ∧ k ≤ 2 ∧ wr'.ownsRow w.heap.size 3 1 v (accOfI xs ys k).length (ints (accOfI xs ys k)) ∧ Below w.heap.size w wr') (fun _ x _ => (10 - intOf x).toNat)
      case atStart => exact ⟨0, rfl, by omega, hown, hB⟩
      case round =>
        clear hown hB
        obtain ⟨k, rfl, hk, hown, hB⟩ := hrel
        have e0 := (cell_below hB hb 0).trans hc0
        have e1 := (cell_below hB hb 1).trans hc1
        obtain rfl | rfl | rfl : k = 0 ∨ k = 1 ∨ k = 2 := by omega
        · obtain ⟨i0, hi0, hz0, hz1, hz2⟩ := info_parts Tryd.info3i
          rcases (H1.out).1.source with ⟨hnv, hnz⟩ | ⟨ad, cap, hsv, hfl, hcs⟩
          · have hnil : xs = [] := List.length_eq_zero_iff.1 hnz
            have he := HV1.out.symm.trans hnv
            rw [HN1.out] at he
            injection he with q1 q2 q3
            subst q1 q3
            have hz0 : Value.slice none n1 0 = .slice none 0 0 := by rw [q2]
            have HZ0 := Lib.hid hz0
            clear hz0 q2
            have hacc : accOfI xs ys 0 = accOfI xs ys 1 := by simp [accOfI, hnil]
            go_wp2_with (at_builtin; refine wpList_append_own_none rfl (.tmp 31) (.tmp 32) _ rfl w.heap.size 3 i0 1 Tryd.underlying22 hi0 u6 _ _ rfl hown HZ0.out ?_)
            exact ⟨⟨1, rfl, by omega, (by rw [← hacc]; exact hown), hB⟩, by simp [intOf]⟩
          · have he := HV1.out.symm.trans hsv
            rw [HN1.out] at he
            injection he with q1 q2 q3
            subst q1 q3
            clear q2
            clear hfl
            have hla : (accOfI xs ys 0).length ≤ 8192 := by rw [LA0.out]; omega
            have hacc : accOfI xs ys 1 = accOfI xs ys 0 ++ xs := by simp [accOfI]
            have HNEWS := Lib.hid (news_kept hB hcs)
            clear hcs
            have hla2 : (accOfI xs ys 0).length + n1 ≤ 8192 := by rw [LA0.out]; omega
            have hacl : (accOfI xs ys 1).length = (accOfI xs ys 0).length + n1 := by rw [hacc, List.length_append, HN1.out]
            have HAC := Lib.hid hacc
            have HACL := Lib.hid hacl
            clear hacc hacl
            go_wp2_with (at_builtin; refine wpList_append_own_at _ rfl (.tmp 31) (.tmp 32) _ rfl w.heap.size 3 i0 _ 1 8 Tryd.underlying22 hi0 hz0 hz1 hz2 rfl (by omega) u6 _ _ rfl hown ad n1 cap1 (ints xs) rfl (by rw [ints_len, HN1.out]; omega) HNEWS.out (ints_one xs) ?c3 ?c4 hB.size ?_)
            case c3 => unfold maxLen; omega
            case c4 => omega
            intro v' w5 hown5 hgrow _ _
            have hB5 := below_own hB hown hgrow
            go_wp2
            exact ⟨⟨1, rfl, by omega, (by rw [HACL.out, HAC.out, ← ints_app]; exact hown5), hB5⟩, by simp [intOf]⟩
        · obtain ⟨i0, hi0, hz0, hz1, hz2⟩ := info_parts Tryd.info3i
          rcases (H2.out).1.source with ⟨hnv, hnz⟩ | ⟨ad, cap, hsv, hfl, hcs⟩
          · have hnil : ys = [] := List.length_eq_zero_iff.1 hnz
            have he := HV2.out.symm.trans hnv
            rw [HN2.out] at he
            injection he with q1 q2 q3
            subst q1 q3
            have hz0 : Value.slice none n2 0 = .slice none 0 0 := by rw [q2]
            have HZ0 := Lib.hid hz0
            clear hz0 q2
            have hacc : accOfI xs ys 1 = accOfI xs ys 2 := by simp [accOfI, hnil]
            go_wp2_with (at_builtin; refine wpList_append_own_none rfl (.tmp 31) (.tmp 32) _ rfl w.heap.size 3 i0 1 Tryd.underlying22 hi0 u6 _ _ rfl hown HZ0.out ?_)
            exact ⟨⟨2, rfl, by omega, (by rw [← hacc]; exact hown), hB⟩, by simp [intOf]⟩
          · have he := HV2.out.symm.trans hsv
            rw [HN2.out] at he
            injection he with q1 q2 q3
            subst q1 q3
            clear q2
            clear hfl
            have hla : (accOfI xs ys 1).length ≤ 8192 := by rw [LA1.out]; omega
            have hacc : accOfI xs ys 2 = accOfI xs ys 1 ++ ys := by simp [accOfI]
            have HNEWS := Lib.hid (news_kept hB hcs)
            clear hcs
            have hla2 : (accOfI xs ys 1).length + n2 ≤ 8192 := by rw [LA1.out]; omega
            have hacl : (accOfI xs ys 2).length = (accOfI xs ys 1).length + n2 := by rw [hacc, List.length_append, HN2.out]
            have HAC := Lib.hid hacc
            have HACL := Lib.hid hacl
            clear hacc hacl
            go_wp2_with (at_builtin; refine wpList_append_own_at _ rfl (.tmp 31) (.tmp 32) _ rfl w.heap.size 3 i0 _ 1 8 Tryd.underlying22 hi0 hz0 hz1 hz2 rfl (by omega) u6 _ _ rfl hown ad n2 cap2 (ints ys) rfl (by rw [ints_len, HN2.out]; omega) HNEWS.out (ints_one ys) ?c3 ?c4 hB.size ?_)
            case c3 => unfold maxLen; omega
            case c4 => omega
            intro v' w5 hown5 hgrow _ _
            have hB5 := below_own hB hown hgrow
            go_wp2
            exact ⟨⟨2, rfl, by omega, (by rw [HACL.out, HAC.out, ← ints_app]; exact hown5), hB5⟩, by simp [intOf]⟩
        · go_wp2
          go_ret
          exact ⟨_, rfl, hown, hB⟩
end Go.Proofs.YtelanndleinabaaDoor
end
