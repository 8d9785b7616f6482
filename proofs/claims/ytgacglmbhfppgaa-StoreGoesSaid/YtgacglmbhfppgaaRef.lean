/- The reference's store (a list that is looked through): what its functions answer, and what they leave alone. -/
import Derived.Test.YtgacglmbhfppgaaMany
namespace Go.Proofs.Ytgacglmbhfppgaa
open Go.RowKit

/-- The reference's store in memory; F: its blocks. -/
structure RefIs (w : World) (B R : Nat) (L : List ByteArray) (st rm : Int) (a : Option Addr) (cap : Nat) : Prop where
  box : Holds w R 44 [.slice a L.length cap, .int .i64 st, .int .i64 rm]
  bR : B ≤ R
  row : w.ownsRow B 9 1 (.slice a L.length cap) L.length (L.map Value.string)

theorem RefIs.fr {w w' : World} {B R : Nat} {L : List ByteArray} {st rm : Int} {a : Option Addr} {cap : Nat} {G : Nat → Prop} (h : RefIs w B R L st rm a cap) (hf : Fr G w w') (h1 : ¬ G R) (h2 : ∀ g, (Value.slice a L.length cap).ownBlock = some g → ¬ G g) : RefIs w' B R L st rm a cap :=
  ⟨hf.holds h.box h1, h.bR, hf.owns h.row h2⟩
theorem RefIs.below {w w' : World} {B R : Nat} {L : List ByteArray} {st rm : Int} {a : Option Addr} {cap : Nat} (h : RefIs w B R L st rm a cap) (hb : Below w.heap.size w w') : RefIs w' B R L st rm a cap :=
  h.fr (G := fun _ => False) (Fr.of_below hb _) id fun _ _ => id

section
variable {w : World} {B R : Nat} {L : List ByteArray} {st rm : Int} {a : Option Addr} {cap : Nat}

def RNew (w : World) (B : Nat) (st rm : Int) (e : Ending) (w' : World) : Prop := ∃ R, e = .returned (.pointer (some ⟨R, 0, none⟩)) ∧ RefIs w' B R [] st rm none 0 ∧ Below w.heap.size w w'

theorem rnew_close (w : World) (B : Nat) (hB : B ≤ w.heap.size) (st rm : Int) : RNew w B st rm (.returned (.pointer (some ⟨w.heap.size, 0, none⟩))) (w.alloc (.cells #[.slice none 0 0, .int .i64 st, .int .i64 rm] 44)) :=
  ⟨_, rfl, ⟨Holds.new w 44 #[.slice none 0 0, .int .i64 st, .int .i64 rm], hB, World.ownsRow_nil _ _ _ _⟩, (Below.refl _ w).alloc (Nat.le_refl _) _⟩

set_option maxHeartbeats 400000 in
theorem rnew_any (w : World) (B : Nat) (hB : B ≤ w.heap.size) (st rm : Int) : Calls Try.prog 15 #[.int .i64 st, .int .i64 rm] w (RNew w B (max st 0) (max rm 0)) := by
  by_cases h1 : st < 0
  · by_cases h2 : rm < 0
    · rw [show max st 0 = 0 from by omega, show max rm 0 = 0 from by omega]
      go_enter Try.func15, Try.ntmps15
      go_wp2
      go_ret
      exact rnew_close w B hB 0 0
    · rw [show max st 0 = 0 from by omega, show max rm 0 = rm from by omega]
      go_enter Try.func15, Try.ntmps15
      go_wp2
      go_ret
      exact rnew_close w B hB 0 rm
  · by_cases h2 : rm < 0
    · rw [show max st 0 = st from by omega, show max rm 0 = 0 from by omega]
      go_enter Try.func15, Try.ntmps15
      go_wp2
      go_ret
      exact rnew_close w B hB st 0
    · rw [show max st 0 = st from by omega, show max rm 0 = rm from by omega]
      go_enter Try.func15, Try.ntmps15
      go_wp2
      go_ret
      exact rnew_close w B hB st rm

theorem row_cell (h : w.ownsRow B 9 1 (.slice a L.length cap) L.length (L.map Value.string)) {i : Nat} (hi : i < L.length) : ∃ g, a = some ⟨g, 0, none⟩ ∧ g < w.heap.size ∧ L.length ≤ cap ∧ w.cell? ⟨g, i, none⟩ = some (.string L[i]) := by
  obtain ⟨g, rfl, _, hg, hgc, _, hcell, _⟩ := owns_head h (by omega)
  have hc := hcell i (by omega)
  rw [List.getElem?_map, List.getElem?_eq_getElem hi] at hc
  exact ⟨g, rfl, hg, hgc, hc⟩

set_option maxHeartbeats 400000 in
theorem rfind_old (h : RefIs w B R L st rm a cap) (hl : L.length ≤ 1000000) (hnd : L.Nodup) (s : ByteArray) (i : Nat) (hi : i < L.length) (he : L[i] = s) :
    Calls Try.prog 17 #[.pointer (some ⟨R, 0, none⟩), .string s] w fun e w' => e = .returned (.tuple #[.int .i64 i, .bool true]) ∧ w = w' := by
  have c0 := h.box.cell 0
  simp at c0
  have HE := Lib.hid he
  have HN := Lib.hid hnd
  clear he hnd
  go_enter Try.func17, Try.ntmps17
  go_wp2
  go_loop [6] (fun j => ∃ k : Nat, j = .int .i64 k ∧ k ≤ i) (fun j => L.length - (intOf j).toNat)
  case atStart => exact ⟨0, rfl, Nat.zero_le _⟩
  case round =>
    obtain ⟨k, rfl, hk⟩ := hrel
    have hkl : k < L.length := by omega
    obtain ⟨g, rfl, hg, hgc, hc⟩ := row_cell h.row hkl
    by_cases hki : k = i
    · subst hki
      have hq : (L[k].toList == s.toList) = true := by rw [HE.out]; simp
      go_wp2
      go_ret2
      exact ⟨rfl, rfl⟩
    · have hq : (L[k].toList == s.toList) = false := by
        have hne : L[k] ≠ s := fun e => hki ((List.getElem_inj HN.out).1 (e.trans HE.out.symm))
        rw [Bool.eq_false_iff]; intro e; exact hne (bytes_eq e)
      go_wp2
      go_round
      case rel => exact ⟨k + 1, by go_num, by omega⟩
      case measure => simp [intOf]; omega

set_option maxHeartbeats 400000 in
theorem rfind_none (h : RefIs w B R L st rm a cap) (hl : L.length ≤ 1000000) (s : ByteArray) (hno : s ∉ L) :
    Calls Try.prog 17 #[.pointer (some ⟨R, 0, none⟩), .string s] w fun e w' => e = .returned (.tuple #[.int .i64 0, .bool false]) ∧ w = w' := by
  have c0 := h.box.cell 0
  simp at c0
  have HN := Lib.hid hno
  clear hno
  go_enter Try.func17, Try.ntmps17
  go_wp2
  go_loop [6] (fun j => ∃ k : Nat, j = .int .i64 k ∧ k ≤ L.length) (fun j => L.length - (intOf j).toNat)
  case atStart => exact ⟨0, rfl, Nat.zero_le _⟩
  case round =>
    obtain ⟨k, rfl, hk⟩ := hrel
    by_cases hkl : k < L.length
    · obtain ⟨g, rfl, hg, hgc, hc⟩ := row_cell h.row hkl
      have hq : (L[k].toList == s.toList) = false := by
        rw [Bool.eq_false_iff]; intro e; exact HN.out (bytes_eq e ▸ List.getElem_mem hkl)
      go_wp2
      go_round
      case rel => exact ⟨k + 1, by go_num, by omega⟩
      case measure => simp [intOf]; omega
    · go_wp2
      go_ret2
      exact ⟨rfl, rfl⟩

theorem total_take {L : List ByteArray} {k : Nat} (hk : k < L.length) : total (L.take (k + 1)) = total (L.take k) + L[k].size := by
  rw [List.take_succ_eq_append_getElem hk, total_append]
theorem total_take_le (L : List ByteArray) (k : Nat) : total (L.take k) ≤ total L := by
  have h : total L = total (L.take k) + total (L.drop k) := by
    unfold total
    rw [← List.sum_append, ← List.map_append, List.take_append_drop]
  omega

set_option maxHeartbeats 400000 in
theorem rbytes_any (h : RefIs w B R L st rm a cap) (hl : L.length ≤ 1000000) (ht : total L ≤ 9223372036854775807) :
    Calls Try.prog 19 #[.pointer (some ⟨R, 0, none⟩)] w fun e w' => e = .returned (.int .i64 (total L : Int)) ∧ w = w' := by
  have c0 := h.box.cell 0
  simp at c0
  go_enter Try.func19, Try.ntmps19
  go_wp2
  go_loop [3, 4] (fun n j => ∃ k : Nat, j = .int .i64 k ∧ k ≤ L.length ∧ n = .int .i64 (total (L.take k) : Int)) (fun _ j => L.length - (intOf j).toNat)
  case atStart => exact ⟨0, rfl, Nat.zero_le _, rfl⟩
  case round =>
    obtain ⟨k, rfl, hk, rfl⟩ := hrel
    by_cases hkl : k < L.length
    · obtain ⟨g, rfl, hg, hgc, hc⟩ := row_cell h.row hkl
      have hb1 := total_take_le L (k + 1)
      have hb2 := total_take hkl
      have HT := Lib.hid hb2
      have hb3 : total (L.take k) + L[k].size ≤ 9223372036854775807 := by omega
      clear hb1 hb2
      go_wp2
      go_round
      case rel => exact ⟨k + 1, by go_num, by omega, by rw [HT.out]; go_num⟩
      case measure => simp [intOf]; omega
    · have HK : Hid (L.take k = L) := List.take_of_length_le (by omega)
      go_wp2
      go_ret
      exact ⟨by rw [HK.out]; rfl, rfl⟩

set_option maxHeartbeats 400000 in
theorem rget_in (h : RefIs w B R L st rm a cap) (_hl : L.length ≤ 1000000) (i : Nat) (hi : i < L.length) :
    Calls Try.prog 18 #[.pointer (some ⟨R, 0, none⟩), .int .i64 i] w fun e w' => e = .returned (.tuple #[.string L[i], .bool true]) ∧ w = w' := by
  have c0 := h.box.cell 0
  simp at c0
  obtain ⟨g, rfl, hg, hgc, hc⟩ := row_cell h.row hi
  go_enter Try.func18, Try.ntmps18
  go_wp2
  go_ret2
  exact ⟨rfl, rfl⟩

set_option maxHeartbeats 400000 in
theorem rget_out (h : RefIs w B R L st rm a cap) (_hl : L.length ≤ 1000000) (n : Int) (hn : n < 0 ∨ L.length ≤ n) :
    Calls Try.prog 18 #[.pointer (some ⟨R, 0, none⟩), .int .i64 n] w fun e w' => e = .returned (.tuple #[.string ByteArray.empty, .bool false]) ∧ w = w' := by
  have c0 := h.box.cell 0
  simp at c0
  by_cases h0 : n < 0
  · go_enter Try.func18, Try.ntmps18
    go_wp2
    go_ret2
    exact ⟨rfl, rfl⟩
  · have h1 : L.length ≤ n := by omega
    clear hn
    go_enter Try.func18, Try.ntmps18
    go_wp2
    go_ret2
    exact ⟨rfl, rfl⟩

theorem quiet_same {P : Program} {f : FuncId} {args : Array Value} {w : World} {n : Nat} {v : Value} (h : Calls P f args (w.drewN n) fun e w' => e = .returned v ∧ w.drewN n = w') : Calls P f args (w.drewN n) fun e w'' => e = .returned v ∧ ∃ m, w'' = w.drewN m :=
  h.mono fun _ _ ⟨he, hm⟩ => ⟨he, n, hm.symm⟩

theorem RefIs.drewN (h : RefIs w B R L st rm a cap) (n : Nat) : RefIs (w.drewN n) B R L st rm a cap := ⟨h.box, h.bR, h.row⟩

def ROld (w : World) (i : Nat) (e : Ending) (w' : World) : Prop := e = .returned (.tuple #[.int .i64 i, .bool false, .int .i64 0]) ∧ Below w.heap.size w w'

set_option maxHeartbeats 400000 in
theorem rput_old (h : RefIs w B R L st rm a cap) (hl : L.length ≤ 1000000) (hnd : L.Nodup) (s : ByteArray) (i : Nat) (hi : i < L.length) (he : L[i] = s) :
    Calls Try.prog 16 #[.pointer (some ⟨R, 0, none⟩), .string s] w (ROld w i) := by
  have HC := Lib.hid (rfind_old h hl hnd s i hi he)
  clear he hnd
  go_enter Try.func16, Try.ntmps16
  go_wp2_with (go_at_call 17; refine HC.out.mono ?_; rintro e w' ⟨rfl, rfl⟩)
  go_ret3
  exact ⟨rfl, Below.refl _ _⟩

def RFull (w : World) (e : Ending) (w' : World) : Prop := e = .returned (.tuple #[.int .i64 0, .bool false, .int .i64 190]) ∧ Below w.heap.size w w'

set_option maxHeartbeats 400000 in
theorem rput_full (h : RefIs w B R L st rm a cap) (hl : L.length ≤ 1000000) (hrm : 0 ≤ rm ∧ rm ≤ 9223372036854775807) (ht : (total L : Int) ≤ rm) (s : ByteArray) (hsz : s.size ≤ maxLen) (hno : s ∉ L) (hfull : st ≤ L.length ∨ rm - total L < s.size) :
    Calls Try.prog 16 #[.pointer (some ⟨R, 0, none⟩), .string s] w (RFull w) := by
  have HC := Lib.hid (rfind_none h hl s hno)
  have c0 := h.box.cell 0
  have c1 := h.box.cell 1
  have c2 := h.box.cell 2
  simp at c0 c1 c2
  unfold maxLen at hsz
  clear hno
  by_cases hd : st ≤ L.length
  · clear hfull
    go_enter Try.func16, Try.ntmps16
    go_wp2_with (go_at_call 17; refine HC.out.mono ?_; rintro e w' ⟨rfl, rfl⟩)
    go_quiet (fail)
    go_wp2
    go_ret3
    exact ⟨rfl, below_drewN (Below.refl _ _) _⟩
  · have hd' : decide (st ≤ L.length) = false := by simpa using hd
    have hf : rm - total L < s.size := by omega
    clear hfull
    go_enter Try.func16, Try.ntmps16
    go_wp2_with (go_at_call 17; refine HC.out.mono ?_; rintro e w' ⟨rfl, rfl⟩)
    go_quiet ((go_at_call 19; exact quiet_same (rbytes_any (h.drewN _) hl (by omega))))
    go_wp2
    go_ret3
    exact ⟨rfl, below_drewN (Below.refl _ _) _⟩

def RNewPost (w : World) (B R : Nat) (L : List ByteArray) (st rm : Int) (a : Option Addr) (cap : Nat) (s : ByteArray) (e : Ending) (w' : World) : Prop :=
  e = .returned (.tuple #[.int .i64 (L.length : Int), .bool true, .int .i64 0]) ∧ ∃ a' cap', RefIs w' B R (L ++ [s]) st rm a' cap' ∧ Fr (fun k => k = R ∨ (Value.slice a L.length cap).ownBlock = some k) w w' ∧ ∀ g, (Value.slice a' (L ++ [s]).length cap').ownBlock = some g → (Value.slice a L.length cap).ownBlock = some g ∨ w.heap.size ≤ g

set_option maxHeartbeats 400000 in
theorem rput_new (h : RefIs w B R L st rm a cap) (hl : L.length ≤ 1000000) (hrm : 0 ≤ rm ∧ rm ≤ 9223372036854775807) (s : ByteArray) (hsz : s.size ≤ maxLen) (hno : s ∉ L) (hst : L.length < st) (hroom : s.size ≤ rm - total L) :
    Calls Try.prog 16 #[.pointer (some ⟨R, 0, none⟩), .string s] w (RNewPost w B R L st rm a cap s) := by
  obtain ⟨i9, hi9, hz9, hs9, hb9⟩ := info_parts Try.info9
  have HC := Lib.hid (rfind_none h hl s hno)
  have c0 := h.box.cell 0
  have c1 := h.box.cell 1
  have c2 := h.box.cell 2
  have hBw : B ≤ w.heap.size := Nat.le_of_lt (Nat.lt_of_le_of_lt h.bR h.box.lt)
  simp at c0 c1 c2
  unfold maxLen at hsz
  clear hno
  have hd' : decide (st ≤ L.length) = false := by simpa using hst
  have hd2 : decide (rm - total L < s.size) = false := by simpa using hroom
  go_enter Try.func16, Try.ntmps16
  go_wp2_with (go_at_call 17; refine HC.out.mono ?_; rintro e w' ⟨rfl, rfl⟩)
  go_quiet ((go_at_call 19; exact quiet_same (rbytes_any (h.drewN _) hl (by omega))))
  have h2 := h.drewN nq
  go_wp2_with (at_builtin; refine wpList_append_own_at _ rfl (.tmp 43) (.tmp 45) _ rfl B 9 i9 _ 1 16 Try.underlying27 hi9 hz9 hs9 hb9 rfl (by omega) (.slice a L.length cap) L.length (L.map Value.string) rfl (h2.row.alloc _) ⟨w.heap.size, 0, none⟩ 1 1 [.string s] rfl rfl ?c1 ?c2 ?c3 ?c4 ?c5 ?_)
  case c1 => exact cell_one_new (w.drewN nq) _ _
  case c2 => simp [Value.oneCell']
  case c3 => unfold maxLen; omega
  case c4 => omega
  case c5 => simp; omega
  intro v' w2 hown hgrow _ hat
  obtain ⟨g', cap', rfl⟩ := ownsRow_succ hown
  have hF : Fr (fun k => (Value.slice a L.length cap).ownBlock = some k) ((w.drewN nq).alloc (.cells #[.string s] 9)) w2 := (Fr.refl _ _).grown hgrow fun k hk _ => hk
  have hb2 : Holds w2 R 44 _ := hF.holds (h2.box.alloc _) (fun e => owns_ne_holds h2.row h2.box (by decide) e)
  have f0 := hb2.cell 0
  have z0 := hb2.free 0
  simp at f0
  go_wp2
  go_ret3
  refine ⟨rfl, some ⟨g', 0, none⟩, cap', ⟨?_, h.bR, ?_⟩, ?_, ?_⟩
  · rw [List.length_append]; exact hb2.put 0 _
  · rw [List.length_append, List.map_append]
    refine ((Fr.refl (fun i => i = R) w2).setCell (p := ⟨R, 0, none⟩) (fun _ => rfl) _).owns hown fun g hg e => ?_
    subst e
    exact owns_ne_holds hown hb2 (by decide) hg
  · exact ((((Fr.refl _ w).drewN nq).alloc _).grown hgrow fun k hk _ => .inr hk).setCell (fun _ => .inl rfl) _
  · intro g hg
    have hg' : (Value.slice (some ⟨g', 0, none⟩) (L.length + 1) cap').ownBlock = some g := hg
    rcases hat with e | e
    · exact .inl (e ▸ hg')
    · rw [e] at hg'
      simp at hg'
      exact .inr (by omega)
end
end Go.Proofs.Ytgacglmbhfppgaa
