/- The walk of sextantref02.blank. -/
import Derived.Test.YtndcbbhfhcjadaaDoorPure
import Derived.Test.YtndcbbhfhcjadaaDoorSep
namespace Go.Proofs.YtndcbbhfhcjadaaDoor
open Go.RowKit

/-- The rest of a text. -/
def rest (s : ByteArray) (i : Nat) : Bs := s.data.toList.drop i
theorem rest_cons {s : ByteArray} {i : Nat} (h : i < s.size) : rest s i = s[i] :: rest s (i + 1) := by
  unfold rest
  rw [List.drop_eq_getElem_cons (by simpa using h)]
  rfl
theorem rest_end {s : ByteArray} {i : Nat} (h : s.size ≤ i) : rest s i = [] := by
  unfold rest
  rw [List.drop_eq_nil_iff]
  simpa using h
theorem u8i (c d : UInt8) : ((c.toNat : Int) == (d.toNat : Int)) = (c == d) := by
  rw [Bool.eq_iff_iff]; simp
  exact ⟨fun h => UInt8.toNat_inj.1 (by omega), fun h => by rw [h]⟩
theorem u8n (c d : UInt8) : ((c.toNat : Int) != (d.toNat : Int)) = !(c == d) := by
  rw [← u8i]; rfl

theorem blank_end {s : ByteArray} {i : Nat} (h : s.size ≤ i) : blank false i (rest s i) = .ok i := by rw [rest_end h]; rfl
theorem blank_open {s : ByteArray} {i : Nat} (h : i + 1 < s.size) (h1 : (s[i] == 47) = true) (h2 : (s[i + 1] == 42) = true) :
    blank false i (rest s i) = blank true (i + 2) (rest s (i + 2)) := by
  rw [rest_cons (by omega), rest_cons h, blank]
  simp [h1, h2]
theorem blank_bl {s : ByteArray} {i : Nat} (h : i < s.size) (h1 : isBl s[i] = true) : blank false i (rest s i) = blank false (i + 1) (rest s (i + 1)) := by
  rw [rest_cons h]
  have h3 : (s[i] == 47) = false := by
    cases hh : (s[i] == 47) with
    | false => rfl
    | true => rw [eq_of_beq hh] at h1; cases h1
  by_cases h2 : i + 1 < s.size
  · rw [rest_cons h2, blank]; simp [h1, h3]
  · rw [rest_end (i := i + 1) (by omega), blank]; simp [h1, blank]
theorem blank_stop {s : ByteArray} {i : Nat} (h : i < s.size) (h1 : isBl s[i] = false) (h2 : ¬ ∃ h : i + 1 < s.size, s[i] = 47 ∧ s[i + 1] = 42) : blank false i (rest s i) = .ok i := by
  rw [rest_cons h]
  by_cases h3 : i + 1 < s.size
  · rw [rest_cons h3, blank]
    have : (s[i] == 47 && s[i + 1] == 42) = false := by
      cases hh : (s[i] == 47 && s[i + 1] == 42) with
      | false => rfl
      | true => simp at hh; exact absurd ⟨h3, hh⟩ h2
    simp [h1, this]
  · rw [rest_end (i := i + 1) (by omega), blank]; simp [h1]
theorem blank_close {s : ByteArray} {i : Nat} (h : i + 1 < s.size) (h1 : (s[i] == 42) = true) (h2 : (s[i + 1] == 47) = true) :
    blank true i (rest s i) = blank false (i + 2) (rest s (i + 2)) := by
  rw [rest_cons (by omega), rest_cons h, blank]
  simp [h1, h2]
theorem blank_in {s : ByteArray} {i : Nat} (h : i + 1 < s.size) (h1 : (s[i] == 42 && s[i + 1] == 47) = false) :
    blank true i (rest s i) = blank true (i + 1) (rest s (i + 1)) := by
  rw [rest_cons (i := i) (by omega), rest_cons h, blank]
  simp [h1]
theorem blank_off {s : ByteArray} {i : Nat} (h : s.size ≤ i + 1) (h' : i ≤ s.size) : blank true i (rest s i) = .bad 21 s.size := by
  by_cases h2 : i < s.size
  · rw [rest_cons h2, rest_end (i := i + 1) (by omega), blank]; simp; omega
  · rw [rest_end (by omega), blank]; simp; omega

/-- What blank answers. -/
def BlankPost (R : Res Nat) (w : World) (e : Ending) (w' : World) : Prop :=
  Below w.heap.size w w' ∧ match R with
  | .ok k => e = .returned (.tuple #[.int .i64 k, mish 0 0])
  | .bad c a => ∃ j : Int, e = .returned (.tuple #[.int .i64 j, mish c a])

theorem out18 {w : World} {tmps : Array Value} {g : Nat} {a b : Value} (hH : Holds w g 26 [a, b]) (h5 : tmps[5]?.getD undef = .pointer (some ⟨g, 0, none⟩)) :
    (results Tryd.f18 tmps).run Tryd.prog w = .ok (.tuple #[tmps.getD 4 undef, .agg #[a, b]]) w := by
  have c0 := hH.cell 0
  have c1 := hH.cell 1
  simp at c0 c1
  simp [results, Tryd.results18, h5, go_sem, c0, c1]

set_option maxHeartbeats 1000000 in
set_option maxRecDepth 100000 in
theorem refBlank (s : ByteArray) (i : Nat) (hi : i ≤ s.size) (hs : s.size ≤ 65536) (w : World) :
    Calls Tryd.prog 18 #[.string s, .int .i64 (i : Int)] w (BlankPost (blank false i (rest s i)) w) := by
  obtain ⟨R, hR⟩ : ∃ R, R = blank false i (rest s i) := ⟨_, rfl⟩
  rw [← hR]
  have HR := Lib.hid hR
  clear hR
  go_enter Tryd.func18, Tryd.ntmps18
  go_wp2
  go_loopw [1] (fun n wr => ∃ j : Nat, n = .int .i64 (j : Int) ∧ j ≤ s.size ∧ Hid (R = blank false j (rest s j)) ∧ Holds wr w.heap.size 26 [.int .i64 0, .int .i64 0] ∧ Below w.heap.size w wr) (fun n _ => (s.size + 10 - intOf n).toNat)
  case atStart => exact ⟨i, rfl, hi, HR, Holds.new w _ _, (Below.refl _ _).alloc (Nat.le_refl _) _⟩
  case round =>
    obtain ⟨j, rfl, hj, HJ, hH, hB⟩ := hrel
    have c0 := hH.cell 0
    have c1 := hH.cell 1
    have f0 := hH.free 0
    have f1 := hH.free 1
    simp at c0 c1
    by_cases hl : j < s.size
    · by_cases ho : ∃ h : j + 1 < s.size, s[j] = 47 ∧ s[j + 1] = 42
      · obtain ⟨h1, h2, h3⟩ := ho
        have e1 : ((s[j].toNat : Int) == 47) = true := by rw [h2]; rfl
        have e2 : ((s[j + 1].toNat : Int) == 42) = true := by rw [h3]; rfl
        go_wp2
        go_loopw [1] (fun n wr' => ∃ j' : Nat, n = .int .i64 (j' : Int) ∧ j' ≤ s.size ∧ j + 2 ≤ j' ∧ Hid (R = blank true j' (rest s j')) ∧ Holds wr' w.heap.size 26 [.int .i64 0, .int .i64 0] ∧ Below w.heap.size w wr') (fun n _ => (s.size + 10 - intOf n).toNat)
        case atStart => exact ⟨j + 2, rfl, by omega, Nat.le_refl _, (by rw [HJ.out]; exact blank_open h1 (by rw [h2]; rfl) (by rw [h3]; rfl)), hH, hB⟩
        case round =>
          clear c0 c1 f0 f1
          obtain ⟨j', rfl, hj', hjj, HJ', hH', hB'⟩ := hrel
          have c0 := hH'.cell 0
          have c1 := hH'.cell 1
          have f0 := hH'.free 0
          have f1 := hH'.free 1
          simp at c0 c1
          by_cases hm : j' + 1 < s.size
          · have hm' : j' < s.size := by omega
            by_cases hc : ((s[j'] == 42) && (s[j' + 1] == 47)) = true
            · rw [Bool.and_eq_true] at hc
              have e3 : ((s[j'].toNat : Int) == 42) = true := (u8i _ 42).trans hc.1
              have e4 : ((s[j' + 1].toNat : Int) == 47) = true := (u8i _ 47).trans hc.2
              have HC := Lib.hid hc
              clear hc
              go_wp2
              go_roundw
              case rel => exact ⟨j' + 2, rfl, by omega, (by rw [HJ'.out]; exact blank_close hm HC.out.1 HC.out.2), hH', hB'⟩
              case measure => simp [intOf]; omega
            · have hc' := eq_false_of_ne_true hc
              clear hc
              have HC := Lib.hid hc'
              have hx := hc'
              rw [← u8i _ 42, ← u8i _ 47] at hx
              clear hc'
              by_cases h42 : ((s[j'].toNat : Int) == 42) = true
              · have h47 : ((s[j' + 1].toNat : Int) == 47) = false := by
                  have h42' : ((s[j'].toNat : Int) == ((42 : UInt8).toNat : Int)) = true := h42
                  rw [h42'] at hx; simpa using hx
                clear hx
                go_wp2
                go_roundw
                case rel => exact ⟨j' + 1, rfl, by omega, by omega, (by rw [HJ'.out]; exact blank_in hm HC.out), hH', hB'⟩
                case measure => simp [intOf]; omega
              · have h42' := eq_false_of_ne_true h42
                clear h42 hx
                go_wp2
                go_roundw
                case rel => exact ⟨j' + 1, rfl, by omega, by omega, (by rw [HJ'.out]; exact blank_in hm HC.out), hH', hB'⟩
                case measure => simp [intOf]; omega
          · have hm' : decide ((j' : Int) + 1 < (s.size : Int)) = false := by simp; omega
            go_wp2_with (fail)
            refine (refBad 21 s.size _).mono ?_
            rintro e w2 ⟨rfl, hb2⟩
            clear c0 c1 f0 f1
            have hH2 := hH'.belowAll hb2
            have hB2 := hB'.trans (hb2.mono hB'.size)
            have c0 := hH2.cell 0
            have c1 := hH2.cell 1
            have f0 := hH2.free 0
            have f1 := hH2.free 1
            simp at c0 c1
            unfold mish
            go_wp2
            refine bodyPost_ret (out18 ((hH2.put 0 _).put 1 _) rfl) rfl ⟨?_, ?_⟩
            · exact (hB2.setCell (Nat.le_refl _) _).setCell (Nat.le_refl _) _
            · rw [HJ'.out, blank_off (by omega) hj']
              exact ⟨j', rfl⟩
      · have HO := Lib.hid ho
        by_cases hb : isBl s[j] = true
        · have HS := Lib.hid (blank_bl hl hb)
          have hb' := hb
          have h47 : ((s[j].toNat : Int) == 47) = false := by
            refine (u8i _ 47).trans ?_
            cases hh : (s[j] == 47) with
            | false => rfl
            | true => rw [eq_of_beq hh] at hb; cases hb
          clear hb ho
          unfold isBl at hb'
          rw [← u8i _ 32, ← u8i _ 9, ← u8i _ 10, ← u8i _ 13] at hb'
          go_wp2
          all_goals first
            | (exact ⟨⟨j + 1, rfl, by omega, (by rw [HJ.out]; exact HS.out), hH, hB⟩, by simp [intOf]; omega⟩)
            | (simp_all; done)
        · have hb' := eq_false_of_ne_true hb
          have HS := Lib.hid (blank_stop hl hb' ho)
          unfold isBl at hb'
          rw [← u8i _ 32, ← u8i _ 9, ← u8i _ 10, ← u8i _ 13] at hb'
          simp only [Bool.or_eq_false_iff] at hb'
          obtain ⟨⟨⟨g1, g2⟩, g3⟩, g4⟩ := hb'
          change ((s[j].toNat : Int) == 32) = false at g1
          change ((s[j].toNat : Int) == 9) = false at g2
          change ((s[j].toNat : Int) == 10) = false at g3
          change ((s[j].toNat : Int) == 13) = false at g4
          clear hb ho
          by_cases h47 : ((s[j].toNat : Int) == 47) = true
          · have h47b : s[j] = 47 := eq_of_beq ((u8i s[j] 47).symm.trans h47)
            by_cases hm : j + 1 < s.size
            · have h42 : ((s[j + 1].toNat : Int) == 42) = false := by
                cases hh : ((s[j + 1].toNat : Int) == 42) with
                | false => rfl
                | true => exact absurd ⟨hm, h47b, eq_of_beq ((u8i s[j + 1] 42).symm.trans hh)⟩ HO.out
              go_wp2
              refine bodyPost_ret (out18 ((hH.put 0 _).put 1 _) rfl) rfl ⟨?_, ?_⟩
              · exact (hB.setCell (Nat.le_refl _) _).setCell (Nat.le_refl _) _
              · rw [HJ.out, HS.out]; rfl
            · have hm' : decide ((j : Int) + 1 < (s.size : Int)) = false := by simp; omega
              go_wp2
              refine bodyPost_ret (out18 ((hH.put 0 _).put 1 _) rfl) rfl ⟨?_, ?_⟩
              · exact (hB.setCell (Nat.le_refl _) _).setCell (Nat.le_refl _) _
              · rw [HJ.out, HS.out]; rfl
          · have h47' := eq_false_of_ne_true h47
            clear h47
            go_wp2
            refine bodyPost_ret (out18 ((hH.put 0 _).put 1 _) rfl) rfl ⟨?_, ?_⟩
            · exact (hB.setCell (Nat.le_refl _) _).setCell (Nat.le_refl _) _
            · rw [HJ.out, HS.out]; rfl
    · have hl' : decide ((j : Int) < (s.size : Int)) = false := by simp; omega
      go_wp2
      refine bodyPost_ret (out18 ((hH.put 0 _).put 1 _) rfl) rfl ⟨?_, ?_⟩
      · exact (hB.setCell (Nat.le_refl _) _).setCell (Nat.le_refl _) _
      · rw [HJ.out, blank_end (by omega)]; rfl
end Go.Proofs.YtndcbbhfhcjadaaDoor
