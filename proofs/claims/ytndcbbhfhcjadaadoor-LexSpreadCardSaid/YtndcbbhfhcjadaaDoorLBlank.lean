/- The walk of (*lex.scanner).blanks. -/
import Derived.Test.YtndcbbhfhcjadaaDoorRTok
import Derived.Test.YtndcbbhfhcjadaaDoorShelf
import Derived.Lib.IndexMore
namespace Go.Proofs.YtndcbbhfhcjadaaDoor
open Go.RowKit

/-- Within a remark: to its end, as strings.Index tells it. -/
theorem blank_index : ∀ (l : Bs) (i : Nat), blank true i l = if Lib.index l [42, 47] < 0 then .bad 21 (i + l.length) else blank false (i + (Lib.index l [42, 47]).toNat + 2) (l.drop ((Lib.index l [42, 47]).toNat + 2))
  | [], i => by simp [blank, Lib.index]
  | [c], i => by
    have h : Lib.index [c] [42, 47] = -1 := by simp [Lib.index, List.isPrefixOf]
    rw [h]; simp [blank]
  | c :: d :: r, i => by
    rw [blank, if_pos rfl, Lib.index]
    by_cases h : (c == 42 && d == 47) = true
    · have hp : List.isPrefixOf [42, 47] (c :: d :: r) = true := by simp at h; simp [List.isPrefixOf, h]
      rw [if_pos h, if_pos hp]
      simp
    · have hp : ¬ List.isPrefixOf [42, 47] (c :: d :: r) = true := by
        simp at h; simp [List.isPrefixOf]; intro a b; exact h a.symm b.symm
      rw [if_neg h, if_neg hp, blank_index (d :: r) (i + 1)]
      have hg := Lib.index_ge (d :: r) [42, 47]
      by_cases hn : Lib.index (d :: r) [42, 47] = -1
      · rw [hn]; simp; omega
      · have hf : (Lib.index (d :: r) [42, 47] == -1) = false := by simpa using hn
        rw [if_neg (show ¬ Lib.index (d :: r) [42, 47] < 0 by omega), hf]
        simp only [Bool.false_eq_true, if_false]
        rw [if_neg (show ¬ Lib.index (d :: r) [42, 47] + 1 < 0 by omega)]
        have e : (Lib.index (d :: r) [42, 47] + 1).toNat = (Lib.index (d :: r) [42, 47]).toNat + 1 := by omega
        rw [e]
        congr 1
        omega

def BlanksPost (X : Nat) (s : ByteArray) (R : Res Nat) (w : World) (e : Ending) (w' : World) : Prop :=
  Fr (fun k => k = X) w w' ∧ match R with
  | .ok k => e = .returned (mish 0 0) ∧ Holds w' X 41 [.string s, .int .i64 k]
  | .bad c a => e = .returned (mish c a)

theorem quiet_same {P : Program} {f : FuncId} {args : Array Value} {w : World} {n : Nat} {v : Value} (h : Calls P f args (w.drewN n) fun e w' => e = .returned v ∧ w' = w.drewN n) : Calls P f args (w.drewN n) fun e w'' => e = .returned v ∧ ∃ n, w'' = w.drewN n :=
  h.mono fun _ _ ⟨he, hm⟩ => ⟨he, n, hm⟩
theorem quiet_sum {P : Program} {f : FuncId} {args : Array Value} {w : World} {K n : Nat} {v : Value} (h : Calls P f args (w.drewN (K + n)) fun e w' => e = .returned v ∧ w' = w.drewN (K + n)) : Calls P f args (w.drewN (K + n)) fun e w'' => e = .returned v ∧ ∃ n, w'' = w.drewN (K + n) :=
  h.mono fun _ _ ⟨he, hm⟩ => ⟨he, n, hm⟩
theorem Holds.drewN {w : World} {g : Nat} {t : TypeId} {cs : List Value} (h : Holds w g t cs) (n : Nat) : Holds (w.drewN n) g t cs := h
theorem Holds.to {w : World} {g : Nat} {t : TypeId} {cs cs' : List Value} (h : Holds w g t cs) (e : cs = cs') : Holds w g t cs' := e ▸ h
theorem Holds.same {w w' : World} {k : Nat} (e : w'.heap[k]? = w.heap[k]?) (o : Nat) : w'.cell? ⟨k, o, none⟩ = w.cell? ⟨k, o, none⟩ := by simp [World.cell?, e]

theorem out15 {w : World} {tmps : Array Value} {g : Nat} {a b : Value} (hH : Holds w g 26 [a, b]) (h2 : tmps[2]?.getD undef = .pointer (some ⟨g, 0, none⟩)) :
    (results Tryd.f15 tmps).run Tryd.prog w = .ok (.agg #[a, b]) w := by
  have c0 := hH.cell 0
  have c1 := hH.cell 1
  simp at c0 c1
  simp [results, Tryd.results15, h2, go_sem, c0, c1]

theorem blanks_next {s : ByteArray} {X g : Nat} {R : Res Nat} {w wr W : World} {j : Nat} (j' : Nat) (hS : Holds wr X 41 [.string s, .int .i64 j]) (h : j < j') (h' : j' ≤ s.size)
    (hR : Hid (R = blank false j' (rest s j'))) (hH : Holds W g 26 [.int .i64 0, .int .i64 0]) (hS' : Holds W X 41 [.string s, .int .i64 j']) (hF : Fr (fun k => k = X) w W) :
    (∃ k : Nat, k ≤ s.size ∧ Hid (R = blank false k (rest s k)) ∧ Holds W g 26 [.int .i64 0, .int .i64 0] ∧ Holds W X 41 [.string s, .int .i64 k] ∧ Fr (fun k => k = X) w W) ∧
      ((s.size : Int) + 10 - intOf ((W.cell? ⟨X, 1, none⟩).getD undef)).toNat < ((s.size : Int) + 10 - intOf ((wr.cell? ⟨X, 1, none⟩).getD undef)).toNat := by
  refine ⟨⟨j', h', hR, hH, hS', hF⟩, ?_⟩
  rw [hS'.cell 1, hS.cell 1]
  simp [intOf]
  omega

theorem rest_bytes (s : ByteArray) (i : Nat) : (s.extract i s.size).data.toList = rest s i := by
  rw [piece]
  show (rest s i).take (s.size - i) = rest s i
  rw [List.take_of_length_le (by rw [rest_len]; exact Nat.le_refl _)]

theorem pre_two {s : ByteArray} {i : Nat} (hi : i < s.size) (a b : UInt8) : Lib.hasPrefix (s.extract i s.size).data.toList [a, b] = (if h : i + 1 < s.size then (s[i] == a && s[i + 1] == b) else false) := by
  rw [rest_bytes, rest_cons hi]
  unfold Lib.hasPrefix
  by_cases h : i + 1 < s.size
  · rw [rest_cons h, dif_pos h]; simp [List.isPrefixOf, BEq.comm]
  · rw [rest_end (i := i + 1) (by omega), dif_neg h]; simp [List.isPrefixOf]

set_option maxHeartbeats 4000000 in
set_option maxRecDepth 100000 in
theorem lexBlanks (s : ByteArray) (i X : Nat) (m : Int) (hi : i ≤ s.size) (hs : s.size ≤ 65536) (w : World) (hX : 1 < X) (hS : Holds w X 41 [.string s, .int .i64 i]) (hm : w.cell? ⟨1, 0, none⟩ = some (.int .i64 m)) (h1 : 1 < w.heap.size) :
    Calls Tryd.prog 15 #[.pointer (some ⟨X, 0, none⟩)] w (BlanksPost X s (blank false i (rest s i)) w) := by
  obtain ⟨R, hR⟩ : ∃ R, R = blank false i (rest s i) := ⟨_, rfl⟩
  rw [← hR]
  have HR := Lib.hid hR
  clear hR
  have hXl := hS.lt
  go_enter Tryd.func15, Tryd.ntmps15
  go_wp2
  go_loopw [3] (fun _ wr => ∃ j : Nat, j ≤ s.size ∧ Hid (R = blank false j (rest s j)) ∧ Holds wr w.heap.size 26 [.int .i64 0, .int .i64 0] ∧ Holds wr X 41 [.string s, .int .i64 j] ∧ Fr (fun k => k = X) w wr) (fun _ wr => (s.size + 10 - intOf ((wr.cell? ⟨X, 1, none⟩).getD undef)).toNat)
  case atStart => exact ⟨i, hi, HR, Holds.new w _ _, hS.alloc _, (Fr.refl _ _).alloc _⟩
  case round =>
    obtain ⟨j, hj, HJ, hH, hS', hF⟩ := hrel
    have c0 := hH.cell 0
    have c1 := hH.cell 1
    have f0 := hH.free 0
    have f1 := hH.free 1
    have x0 := hS'.cell 0
    have x1 := hS'.cell 1
    have y1 := hS'.free 1
    simp at c0 c1 x0 x1
    have hX1 : ¬ (1 : Nat) = X := by omega
    have z1 : wr.cell? ⟨1, 0, none⟩ = some (.int .i64 m) := (Holds.same (hF.block 1 h1 hX1) 0).trans hm
    by_cases hl : j < s.size
    · go_wp2
      go_quiet (fail)
      go_wp2
      go_quiet (fail)
      go_wp2
      go_quiet ((go_at_call 24; exact quiet_sum (Tryd.strings_HasPrefix _ _ _)))
      rw [pre_two hl]
      by_cases ho : ∃ h : j + 1 < s.size, s[j] = 47 ∧ s[j + 1] = 42
      · obtain ⟨h1', h2, h3⟩ := ho
        rw [dif_pos h1', h2, h3]
        go_wp2
        go_quiet ((go_at_call 25; exact quiet_sum (Tryd.strings_Index _ _ m _ (by rw [ByteArray.size_extract]; omega) z1)))
        rw [rest_bytes]
        have hb := HJ.out
        rw [blank_open h1' (by simp [h2]) (by simp [h3]), blank_index] at hb
        have hg := Lib.index_ge (rest s (j + 2)) [42, 47]
        have hq := Lib.index_room (rest s (j + 2)) [42, 47]
        change _ → _ + 2 ≤ ((rest s (j + 2)).length : Int) at hq
        rw [rest_len] at hq hb
        generalize hN : Lib.index (rest s (j + 2)) [42, 47] = N at hb hg hq ⊢
        by_cases hn : N < 0
        · rw [if_pos hn, show j + 2 + (s.size - (j + 2)) = s.size by omega] at hb
          have hb' := Lib.hid hb
          clear hb
          go_wp2
          refine bodyPost_ret (out15 (((hH.drewN _).put 0 _).put 1 _) rfl) rfl ⟨?_, ?_⟩
          · exact ((hF.drewN _).setCell (fun h => absurd h (by show ¬ w.heap.size < _; omega)) _).setCell (fun h => absurd h (by show ¬ w.heap.size < _; omega)) _
          · rw [hb'.out]; rfl
        · rw [if_neg hn, rest_drop] at hb
          obtain ⟨k, rfl⟩ : ∃ k : Nat, N = (k : Int) := ⟨N.toNat, by omega⟩
          have hb' := Lib.hid hb
          clear hb
          have hq' := hq (by omega)
          go_wp2
          exact blanks_next (j + (k + 4)) hS' (by omega) (by omega) (show _ = _ by rw [hb'.out, show j + 2 + ((k : Int).toNat + 2) = j + (k + 4) by omega, show j + 2 + (k : Int).toNat + 2 = j + (k + 4) by omega])
            ((hH.drewN _).far (by show ¬ w.heap.size = X; omega) _) (((hS'.drewN _).put 1 _).to (by simp)) ((hF.drewN _).setCell (fun _ => rfl) _)
      · have hp : (if h : j + 1 < s.size then (s[j] == 47 && s[j + 1] == 42) else false) = false := by
          split
          · rename_i hh
            cases h4 : (s[j] == 47 && s[j + 1] == 42)
            · rfl
            · rw [Bool.and_eq_true] at h4
              exact absurd ⟨hh, eq_of_beq h4.1, eq_of_beq h4.2⟩ ho
          · rfl
        rw [hp]
        have hO := Lib.hid ho
        by_cases hb : isBl s[j] = true
        · have HS := Lib.hid (blank_bl hl hb)
          have hb' := hb
          clear hb ho hp
          unfold isBl at hb'
          rw [← u8i _ 32, ← u8i _ 9, ← u8i _ 10, ← u8i _ 13] at hb'
          go_wp2
          all_goals first
            | exact blanks_next (j + 1) hS' (by omega) (by omega) (show _ = _ by rw [HJ.out]; exact HS.out) ((hH.drewN _).far (by show ¬ w.heap.size = X; omega) _) (((hS'.drewN _).put 1 _).to (by simp)) ((hF.drewN _).setCell (fun _ => rfl) _)
            | (simp_all; done)
        · have hb' := eq_false_of_ne_true hb
          have HS := Lib.hid (blank_stop hl hb' ho)
          unfold isBl at hb'
          rw [← u8i _ 32, ← u8i _ 9, ← u8i _ 10, ← u8i _ 13] at hb'
          simp only [Bool.or_eq_false_iff] at hb'
          obtain ⟨⟨⟨g1, g2⟩, g3⟩, g4⟩ := hb'
          change ((s[j].toNat : Int) == 32) = false at g1
          change ((s[j].toNat : Int) == 9) = false at g2
          change ((s[j].toNat : Int) == 10) = false at g3
          change ((s[j].toNat : Int) == 13) = false at g4
          clear hb ho hp
          go_wp2
          refine bodyPost_ret (out15 (((hH.drewN _).put 0 _).put 1 _) rfl) rfl ⟨?_, ?_⟩
          · exact ((hF.drewN _).setCell (fun h => absurd h (by show ¬ w.heap.size < _; omega)) _).setCell (fun h => absurd h (by show ¬ w.heap.size < _; omega)) _
          · rw [HJ.out, HS.out]; exact ⟨rfl, ((hS'.drewN _).far (by show ¬ X = w.heap.size; omega) _).far (by show ¬ X = w.heap.size; omega) _⟩
    · have hl' : decide ((j : Int) < (s.size : Int)) = false := by simp; omega
      go_wp2
      go_quiet (fail)
      go_wp2
      refine bodyPost_ret (out15 (((hH.drewN _).put 0 _).put 1 _) rfl) rfl ⟨?_, ?_⟩
      · exact ((hF.drewN _).setCell (fun h => absurd h (by show ¬ w.heap.size < _; omega)) _).setCell (fun h => absurd h (by show ¬ w.heap.size < _; omega)) _
      · rw [HJ.out, blank_end (by omega)]; exact ⟨rfl, ((hS'.drewN _).far (by show ¬ X = w.heap.size; omega) _).far (by show ¬ X = w.heap.size; omega) _⟩
end Go.Proofs.YtndcbbhfhcjadaaDoor
