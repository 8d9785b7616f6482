/- The walks of the reference's Move, copies, Bytes; the statements' pick. -/
import Derived.Test.YtcedenoicmpjmaaOwn
import Derived.Test.YtcedenoicmpjmaaRnum
import Derived.Test.YtcedenoicmpjmaaRnums
import Derived.Test.YtcedenoicmpjmaaRchk
namespace Go.Proofs.Ytcedenoicmpjmaa
open Go.RowKit
set_option linter.unusedVariables false
set_option linter.unusedSimpArgs false

set_option maxHeartbeats 4000000 in
set_option maxRecDepth 100000 in
theorem moveFn {P P' : Nat → Prop} {w : World} {k : Nat} {a : PArc} {s : ByteArray} {vr vw vr' vw' : Value} (h1 : RowL P w 1 vr a.reads.length (a.reads.map intV)) (h2 : RowL P w 1 vw a.writes.length (a.writes.map intV)) (h3 : RowL P' w 1 vr' a.reads.length (a.reads.map intV)) (h4 : RowL P' w 1 vw' a.writes.length (a.writes.map intV)) (hn : a.reads.length ≤ 2000000 ∧ a.writes.length ≤ 2000000) :
    Calls Try.prog 44 #[.agg (mvC k a s vr vw).toArray, .agg (mvC k a s vr' vw').toArray] w (Yes w) := by
  obtain ⟨a1, c1, rfl, _, _, _⟩ := h1.form
  obtain ⟨a2, c2, rfl, _, _, _⟩ := h2.form
  obtain ⟨a3, c3, rfl, _, _, _⟩ := h3.form
  obtain ⟨a4, c4, rfl, _, _, _⟩ := h4.form
  obtain ⟨w1, hw1⟩ : ∃ W, W = (w.alloc (.cells #[.int .i64 a.proc, .int .i64 (k : Int), .int .i64 (-1), .int .i64 (-1), .string s, .int .i64 a.bad, .slice a1 a.reads.length c1, .slice a2 a.writes.length c2, .int .u64 (a.turns : Int)] 79)).alloc (.cells #[.int .i64 a.proc, .int .i64 (k : Int), .int .i64 (-1), .int .i64 (-1), .string s, .int .i64 a.bad, .slice a3 a.reads.length c3, .slice a4 a.writes.length c4, .int .u64 (a.turns : Int)] 79) := ⟨_, rfl⟩
  have hb1 : Below w.heap.size w w1 := by rw [hw1]; exact ((Below.refl _ _).alloc (Nat.le_refl _) _).alloc (by simp) _
  have d1 : Holds w1 w.heap.size 79 (mvC k a s (.slice a1 a.reads.length c1) (.slice a2 a.writes.length c2)) := by
    rw [hw1]
    exact (Holds.new w 79 (mvC k a s (.slice a1 a.reads.length c1) (.slice a2 a.writes.length c2)).toArray).alloc _
  have d2 : Holds w1 (w.heap.size + 1) 79 (mvC k a s (.slice a3 a.reads.length c3) (.slice a4 a.writes.length c4)) := by
    have h := Holds.new (w.alloc (.cells (mvC k a s (.slice a1 a.reads.length c1) (.slice a2 a.writes.length c2)).toArray 79)) 79 (mvC k a s (.slice a3 a.reads.length c3) (.slice a4 a.writes.length c4)).toArray
    simp only [World.size_alloc] at h
    rw [hw1]
    exact h
  have HB1 := Lib.hid hb1
  have D1 := Lib.hid d1
  have D2 := Lib.hid d2
  have H1 := Lib.hid (h1.up (Keep.below hb1))
  have H2 := Lib.hid (h2.up (Keep.below hb1))
  have H3 := Lib.hid (h3.up (Keep.below hb1))
  have H4 := Lib.hid (h4.up (Keep.below hb1))
  have e6 := d1.cell 6
  have f6 := d2.cell 6
  simp only [mvC, List.getElem?_cons_zero, List.getElem?_cons_succ] at e6 f6 ⊢
  rw [hw1] at e6 f6
  clear hb1 d1 d2 h1 h2 h3 h4
  go_enter Try.func44, Try.ntmps44
  go_wp2_with (fail)
  rw [← hw1]
  clear hw1 e6 f6
  refine (sameFn H1.out H3.out hn.1).mono ?_
  rintro e w2 ⟨rfl, hb2⟩
  have e7 := (D1.out.belowAll hb2).cell 7
  have f7 := (D2.out.belowAll hb2).cell 7
  simp only [mvC, List.getElem?_cons_zero, List.getElem?_cons_succ] at e7 f7
  have H22 := Lib.hid (H2.out.up (Keep.below hb2))
  have H42 := Lib.hid (H4.out.up (Keep.below hb2))
  have HB2 : Hid (Below w.heap.size w w2) := HB1.out.trans (hb2.mono HB1.out.size)
  have D12 := Lib.hid (D1.out.belowAll hb2)
  have D22 := Lib.hid (D2.out.belowAll hb2)
  clear hb2 D1 D2 H2 H4
  go_wp2_with (fail)
  refine (sameFn H22.out H42.out hn.2).mono ?_
  rintro e w3 ⟨rfl, hb3⟩
  have E := D12.out.belowAll hb3
  have G := D22.out.belowAll hb3
  have e0 := E.cell 0
  have e1 := E.cell 1
  have e2 := E.cell 2
  have e3 := E.cell 3
  have e4 := E.cell 4
  have e5 := E.cell 5
  have e8 := E.cell 8
  have g0 := G.cell 0
  have g1 := G.cell 1
  have g2 := G.cell 2
  have g3 := G.cell 3
  have g4 := G.cell 4
  have g5 := G.cell 5
  have g8 := G.cell 8
  simp only [mvC, List.getElem?_cons_zero, List.getElem?_cons_succ] at e0 e1 e2 e3 e4 e5 e8 g0 g1 g2 g3 g4 g5 g8
  have HB3 : Hid (Below w.heap.size w w3) := HB2.out.trans (hb3.mono HB2.out.size)
  clear hb3 E G e7 f7
  go_wp2
  go_ret
  exact ⟨rfl, HB3.out⟩
def CopiesPost (l : List Int) (w : World) (e : Ending) (w' : World) : Prop := Below w.heap.size w w' ∧ ∃ v, e = .returned v ∧ RowX w.heap.size w' v l
set_option maxHeartbeats 1000000 in
set_option maxRecDepth 100000 in
theorem copiesFn {P : Nat → Prop} {w : World} {v : Value} {l : List Int} (h : RowL P w 1 v l.length (l.map intV)) (hn : l.length ≤ 2000000) : Calls Try.prog 35 #[v] w (CopiesPost l w) := by
  obtain ⟨n, hnl⟩ : ∃ n, l.length = n := ⟨_, rfl⟩
  have HN := Lib.hid hnl
  have H := Lib.hid h
  obtain ⟨i0, z0, hi0, hz0, hz1, hz2, hz3⟩ := info_of info_int
  have hone : ∀ u ∈ l.map intV, u.oneCell' = true := fun u hu => by
    obtain ⟨z, _, rfl⟩ := List.mem_map.1 hu
    rfl
  clear h hnl
  go_enter Try.func35, Try.ntmps35
  go_wp2_with (refine halt_call2 { callee := .builtin .append, args := #[.tmp 4, .tmp 5], argTypes := #[44, 44] } rfl ?_)
  refine Stop.mk ?_
  refine wpList_append_row rfl (.tmp 4) (.tmp 5) _ rfl w.heap.size 3 i0 z0 1 8 Try.underlying44 hi0 hz0 hz1 hz2 hz3 (by omega) (.slice none 0 0) 0 [] rfl (World.ownsRow_nil _ _ _ _) v n (l.map intV) rfl (by rw [← HN.out]; exact H.out) hone (by unfold maxLen; have := HN.out; omega) (by have := HN.out; omega) (Nat.le_refl _) ?_
  intro v' w' hown hgr _
  rw [Nat.zero_add, List.nil_append] at hown
  have HB : Hid (Below w.heap.size w w') := (Below.refl _ w).grown hgr (Nat.le_refl _) fun k hk => by simp [Value.ownBlock] at hk
  have HX : Hid (RowX w.heap.size w' v' l) := by
    refine ⟨.inr ?_, ?_⟩
    · rw [HN.out]; exact hown
    · have h3 := RowL.of_owns (P := From w.heap.size) hown fun k hk => hk
      rw [← HN.out] at h3
      exact h3
  clear hown hgr
  go_wp2
  go_ret
  exact ⟨HB.out, v', rfl, HX.out⟩
theorem key_add (m : Nat) : (⟨#[]⟩ : ByteArray) ++ ⟨(enc m).toArray⟩ = keyS m := by
  apply ByteArray.ext
  simp [keyS, ByteArray.append_eq]
set_option maxHeartbeats 1000000 in
set_option maxRecDepth 100000 in
theorem refBytesFn {P : Nat → Prop} {w : World} {v : Value} {m : Nat} (h : RowL P w 1 v 1 [.int .i64 (m : Int)]) (hm : m < 9223372036854775808) : Calls Try.prog 16 #[v] w (fun e w' => e = .returned (.string (keyS m)) ∧ Below w.heap.size w w') := by
  obtain ⟨g, o, cap, rfl⟩ := h.some (by omega)
  have H := Lib.hid h
  have HMM := Lib.hid hm
  have hwu : IntKind.u64.wrap (m : Int) = (m : Int) := by rw [IntKind.wrap_u64]; omega
  have HC := Lib.hid (refNumber m (by omega))
  clear h hm
  go_enter Try.func16, Try.ntmps16
  go_wp2
  go_loopw [3, 4] (fun s x wr => ∃ i : Nat, x = .int .i64 (i : Int) ∧ i ≤ 1 ∧ s = .string (if i = 0 then ⟨#[]⟩ else keyS m) ∧ Hid (Below w.heap.size w wr)) (fun _ x _ => 1 - (intOf x).toNat)
  case atStart => exact ⟨0, rfl, Nat.zero_le _, rfl, Below.refl _ _⟩
  case round =>
    obtain ⟨i, hx, hi, hs, HB⟩ := hrel
    subst hx
    subst hs
    by_cases hi0 : i = 0
    · subst hi0
      have c0 := (H.out.up (Keep.below HB.out)).at1 (i := 0) (by omega)
      obtain ⟨g', o', cap', x, h1, h2, h3⟩ := c0
      injection h1 with h1 _ h4
      injection h1 with h1
      injection h1 with h1 h1'
      subst h1 h1' h4
      injection h2 with h2
      subst h2
      rw [Nat.add_zero] at h3
      go_wp2_with (fail)
      refine (HC.out _).mono ?_
      rintro e w2 ⟨rfl, hb2⟩
      have HB2 : Hid (Below w.heap.size w w2) := HB.out.trans (hb2.mono HB.out.size)
      have hlen := enc_len64 (n := m) (by have := HMM.out; omega)
      have hcat : ¬ 9223372036854775807 < (enc m).length := by omega
      clear hb2 hlen
      go_wp2
      go_roundw
      case rel => exact ⟨1, rfl, Nat.le_refl _, by rw [key_add]; rfl, HB2.out⟩
      case measure => (simp [intOf]) <;> omega
    · obtain rfl : i = 1 := by omega
      have hne : (if (1 : Nat) = 0 then (⟨#[]⟩ : ByteArray) else keyS m) = keyS m := rfl
      rw [hne]
      go_wp2
      go_ret
      exact ⟨rfl, HB.out⟩
end Go.Proofs.Ytcedenoicmpjmaa
