/- Fco, Bfq, joined. -/
import Derived.Test.YtokkjifmgmngjaaFsp
import Derived.Test.YtokkjifmgmngjaaBuf
section
/- Systems with copies: plain. -/
namespace Go.Proofs.Ytokkjifmgmngjaa.G
open Go.RowKit
set_option linter.unusedVariables false
set_option linter.unusedSimpArgs false

def joinS (n : Nat) (x : ByteArray) : ByteArray := ⟨(enc n).toArray⟩ ++ x
theorem joinS_list (n : Nat) (x : ByteArray) : (joinS n x).data.toList = enc n ++ x.data.toList := by
  unfold joinS
  rw [ByteArray.data_append]
  simp
theorem joinS_size (n : Nat) (x : ByteArray) : (joinS n x).size = (enc n).length + x.size := by
  unfold joinS
  rw [ByteArray.size_append]
  rfl
theorem splitP_join {n : Nat} (h : n ≤ 20000) (x : ByteArray) : splitP (joinS n x) = some (n, x) := by
  unfold splitP
  rw [joinS_list, dec_enc h]
  simp only
  rw [if_neg (by omega)]
  congr 2
  apply ByteArray.ext
  rw [ByteArray.data_extract, joinS_size]
  apply Array.toList_inj.1
  rw [Array.toList_extract]
  have h1 : (joinS n x).data.toList = enc n ++ x.data.toList := joinS_list n x
  rw [h1]
  simp [List.extract_eq_take_drop]
  rw [List.take_of_length_le]
  simp
/-- The copy and the state. -/
def cstate (K : Nat) (s : ByteArray) : Option (Nat × ByteArray) := match splitP s with
  | some (k, x) => if k ≤ K then some (k, x) else none
  | none => none
def mvsP (p : Int) (m : PMove) : Bool := decide (m.proc = p) || decide (m.wth = p)
def ableP (S : Sys) (x : ByteArray) (p : Int) : Bool := (S.next x).any (mvsP p)
def cgoes (S : Sys) (k : Nat) (x : ByteArray) : Bool := (decide (k = 0) && (S.look x).acc) || (decide (0 < k) && !ableP S x ((k : Int) - 1))
def cnum (K k : Nat) (g : Bool) (m : PMove) : Nat := if g || (decide (0 < k) && mvsP ((k : Int) - 1) m) then (k + 1) % (K + 1) else k
def cmove (K k : Nat) (g : Bool) (m : PMove) : PMove := if m.bad = 0 then { m with dst := joinS (cnum K k g m) m.dst } else m
def cnext (S : Sys) (K : Nat) (s : ByteArray) : List PMove := match cstate K s with
  | some (k, x) => (S.next x).map (cmove K k (cgoes S k x))
  | none => []
def clook (S : Sys) (K : Nat) (s : ByteArray) : PNode := match cstate K s with
  | some (k, x) => { S.look x with acc := (S.look x).acc && decide (k = 0) }
  | none => zeroN
def csys (S : Sys) (K : Nat) : Sys := ⟨joinS 0 S.beg, clook S K, cnext S K⟩
theorem cnum_le {K k : Nat} (h : k ≤ K) (g : Bool) (m : PMove) : cnum K k g m ≤ K ∧ (cnum K k g m = k ∨ cnum K k g m = k + 1 ∨ cnum K k g m = 0) := by
  unfold cnum
  split
  · have h1 : (k + 1) % (K + 1) < K + 1 := Nat.mod_lt _ (by omega)
    refine ⟨by omega, ?_⟩
    by_cases h2 : k + 1 < K + 1
    · rw [Nat.mod_eq_of_lt h2]; exact .inr (.inl rfl)
    · have h3 : k + 1 = K + 1 := by omega
      rw [h3, Nat.mod_self]; exact .inr (.inr rfl)
  · exact ⟨h, .inl rfl⟩
end Go.Proofs.Ytokkjifmgmngjaa.G
end
section
/- The walks of codec.Buffer's methods at a buffer of 32 bytes, and of fair.joined (Buf, turned). -/
namespace Go.Proofs.Ytokkjifmgmngjaa.B32
open Go.RowKit Go.Proofs.Ytokkjifmgmngjaa
set_option linter.unusedVariables false
set_option linter.unusedSimpArgs false

theorem newFn (w : World) : Calls Try.prog 48 #[.int .i64 32] w fun e w' => e = .returned (.pointer (some ⟨w.heap.size, 0, none⟩)) ∧ w' = w.alloc (.cells #[.slice none 0 0, .int .i64 32] 113) := by
  go_enter Try.func48, Try.ntmps48
  go_wp2
  go_ret
  exact ⟨rfl, rfl⟩
/-- A buffer that is the call's own, with these bytes. -/
structure BufV (w : World) (base B : Nat) (v : Value) (s : Bs) : Prop where
  box : Holds w B 113 [v, .int .i64 32]
  row : w.ownsRow base 5 1 v s.length (s.map byteV)
  low : base ≤ B
theorem BufV.below {w w' : World} {base B : Nat} {v : Value} {s : Bs} (h : BufV w base B v s) (hb : Below w.heap.size w w') : BufV w' base B v s := ⟨h.box.belowAll hb, owns_below h.row hb, h.low⟩
def PutPost (w : World) (base B : Nat) (s : Bs) (e : Ending) (w' : World) : Prop := e = .returned (.int .i64 0) ∧ (∃ v, BufV w' base B v s) ∧ Below base w w'
set_option maxHeartbeats 1000000 in
set_option maxRecDepth 100000 in
theorem putFn {w : World} {base B : Nat} {v : Value} {s t : Bs} {P : Nat → Prop} {vt : Value} (h : BufV w base B v s) (ht : RowL P w 1 vt t.length (t.map byteV)) (hl : s.length + t.length ≤ 32) :
    Calls Try.prog 52 #[.pointer (some ⟨B, 0, none⟩), vt] w (PutPost w base B (s ++ t)) := by
  obtain ⟨i0, z0, hi0, hz0, hz1, hz2, hz3⟩ := info_of info_u8
  obtain ⟨a, c, rfl, hc1, hc2, _⟩ := ht.form
  obtain ⟨a2, c2, rfl, _, _⟩ := owns_form h.row
  obtain ⟨N, hN⟩ : ∃ N, t.length = N := ⟨_, rfl⟩
  obtain ⟨M, hM⟩ : ∃ M, s.length = M := ⟨_, rfl⟩
  have e0 := h.box.cell 0
  have e1 := h.box.cell 1
  simp only [List.getElem?_cons_zero, List.getElem?_cons_succ] at e0 e1
  have H := Lib.hid h
  have HT := Lib.hid ht
  have HN := Lib.hid hN
  have HM := Lib.hid hM
  rw [hN] at hl hc1 ⊢
  rw [hM] at hl e0
  have d1 : decide ((32 : Int) - (M : Int) < (N : Int)) = false := decide_eq_false (by omega)
  have hw1 : IntKind.i64.wrap ((32 : Int) - (M : Int)) = (32 : Int) - (M : Int) := by rw [IntKind.wrap_i64]; omega
  have HLM := Lib.hid hl
  clear hN hM h ht hl
  go_enter Try.func52, Try.ntmps52
  go_wp2
  go_quiet (fail)
  have hB0 : Below w.heap.size w (w.drewN nq) := ⟨rfl, rfl, rfl, Nat.le_refl _, fun _ _ => rfl⟩
  have H' := Lib.hid (H.out.below hB0)
  have HT' := Lib.hid (HT.out.up (Keep.below hB0))
  clear hB0 hw1 d1
  go_wp2_with (at_builtin; refine wpList_append_row rfl (.tmp 22) (.tmp 23) _ rfl base 5 i0 z0 1 1 Try.underlying111 hi0 hz0 hz1 hz2 hz3 (by omega) (.slice a2 M c2) M (s.map byteV) rfl (by have := H'.out.row; rwa [HM.out] at this) _ N (t.map byteV) rfl (by have := HT'.out; rwa [HN.out] at this) (byte_one t) (by have := HLM.out; unfold maxLen; omega) (by have := HLM.out; omega) (by have h1 := H'.out.low; have h2 := H'.out.box.lt; omega) ?_)
  intro v' w2 hown hgr hat
  obtain ⟨a3, c3, rfl, _, _⟩ := owns_form hown
  have hbox : Holds w2 B 113 [.slice a2 M c2, .int .i64 32] := by
    have hb := H'.out.box
    rw [HM.out] at hb
    exact hb.of_eq (hgr.block B hb.lt fun e => owns_ne_holds (by have := H'.out.row; rwa [HM.out] at this) hb (by decide) e.symm)
  have f0 := hbox.cell 0
  have z0 := hbox.free 0
  simp only [List.getElem?_cons_zero] at f0
  have hfin : PutPost w base B (s ++ t) (.returned (.int .i64 0)) (w2.setCell ⟨B, 0, none⟩ (.slice a3 (M + N) c3)) := by
    refine ⟨rfl, ⟨.slice a3 (M + N) c3, hbox.put 0 _, ?_, H'.out.low⟩, ?_⟩
    · rw [List.length_append, List.map_append, HN.out, HM.out]
      exact ((Fr.refl (fun i => i = B) w2).setCell (p := ⟨B, 0, none⟩) (fun _ => rfl) _).owns hown fun g hg e => owns_ne_holds hown hbox (by decide) (by rw [hg, e])
    · have h1 : Below base w (w.drewN nq) := ⟨rfl, rfl, rfl, Nat.le_refl _, fun _ _ => rfl⟩
      have hlt := H'.out.box.lt
      have hlo := H'.out.low
      exact (h1.grown hgr (by omega) fun k hk => by
        have := H'.out.row
        rw [HM.out] at this
        exact (this.lt k hk).1).setCell hlo _
  have HF := Lib.hid hfin
  clear hfin hbox hown hgr hat H H' HT HT' HN HM HLM hc1 hc2
  go_wp2
  go_ret
  exact HF.out
def UintPost := PutPost
set_option maxHeartbeats 1000000 in
set_option maxRecDepth 100000 in
theorem bufUint {w : World} {base B : Nat} {v : Value} {s : Bs} {n : Nat} (hn : n < 18446744073709551616) (h : BufV w base B v s) (hb : base ≤ w.heap.size) (hl : s.length ≤ 22) :
    Calls Try.prog 49 #[.pointer (some ⟨B, 0, none⟩), .int .u64 (n : Int)] w (PutPost w base B (s ++ enc n)) := by
  have HC := Lib.hid (numberFn hn w)
  have H := Lib.hid h
  have HL := Lib.hid hl
  have HN := Lib.hid (enc_len64 hn)
  clear hn h hl
  go_enter Try.func49, Try.ntmps49
  go_wp2_with (fail)
  refine HC.out.mono ?_
  rintro e w1 ⟨v1, rfl, ho, hB1⟩
  obtain ⟨a1, c1, rfl, _, _⟩ := owns_form ho
  have HP := Lib.hid (putFn (H.out.below hB1) (row_own ho) (by have := HL.out; have := HN.out; omega))
  have HB1 := Lib.hid hB1
  clear ho hB1 HC
  go_wp2_with (fail)
  refine HP.out.mono ?_
  rintro e w2 ⟨rfl, ⟨v2, hv2⟩, hB2⟩
  have hfin : PutPost w base B (s ++ enc n) (.returned (.int .i64 0)) w2 := ⟨rfl, ⟨v2, hv2⟩, (HB1.out.mono hb).trans hB2⟩
  have HF := Lib.hid hfin
  clear hfin hv2 hB2 HP
  go_wp2
  go_ret
  exact HF.out
set_option maxHeartbeats 1000000 in
theorem bufString {w : World} {base B : Nat} {v : Value} {s : Bs} (h : BufV w base B v s) :
    Calls Try.prog 50 #[.pointer (some ⟨B, 0, none⟩)] w fun e w' => e = .returned (.string ⟨s.toArray⟩) ∧ w' = w := by
  obtain ⟨a2, c2, rfl, _, _⟩ := owns_form h.row
  have e0 := h.box.cell 0
  simp only [List.getElem?_cons_zero] at e0
  have hconv := run_bytes_own (P := Try.prog) Try.underlying111 Try.underlying5 Try.underlying9 h.row
  obtain ⟨N, hN⟩ : ∃ N, s.length = N := ⟨_, rfl⟩
  rw [hN] at e0 hconv
  have H := Lib.hid hN
  clear hN h
  go_enter Try.func50, Try.ntmps50
  go_wp2
  go_ret
  exact ⟨rfl, rfl⟩

def JoinedPost (n : Nat) (x : ByteArray) (w : World) (e : Ending) (w' : World) : Prop := e = .returned (.string (G.joinS n x)) ∧ Below w.heap.size w w'
set_option maxHeartbeats 1000000 in
theorem joinedFn {n : Nat} {x : ByteArray} (hn : n ≤ 20000) (hx : x.size ≤ 1048576) (w : World) : Calls Try.prog 58 #[.int .i64 (n : Int), .string x] w (JoinedPost n x w) := by
  obtain ⟨w1, hw1⟩ : ∃ W, W = w.alloc (.cells #[.slice none 0 0, .int .i64 32] 113) := ⟨_, rfl⟩
  have hb1 : Below w.heap.size w w1 := by rw [hw1]; exact (Below.refl _ _).alloc (Nat.le_refl _) _
  have hbv : BufV w1 w.heap.size w.heap.size (.slice none 0 0) [] := ⟨by rw [hw1]; exact Holds.new w 113 #[.slice none 0 0, .int .i64 32], World.ownsRow_nil _ _ _ _, Nat.le_refl _⟩
  have HU := Lib.hid (bufUint (n := n) (by omega) hbv hb1.size (by simp))
  rw [List.nil_append] at HU
  have HB1 := Lib.hid hb1
  have HW1 := Lib.hid hw1
  have hwn : IntKind.u64.wrap (n : Int) = (n : Int) := by rw [IntKind.wrap_u64]; omega
  have he : (⟨(enc n).toArray⟩ : ByteArray).size ≤ 10 := enc_len64 (by omega)
  obtain ⟨s, hs⟩ : ∃ s : ByteArray, (⟨(enc n).toArray⟩ : ByteArray) = s := ⟨_, rfl⟩
  have HS := Lib.hid hs
  rw [hs] at he
  have hle : s.size + x.size ≤ 9223372036854775807 := by omega
  have HJ : Hid (G.joinS n x = s ++ x) := by show _ = _; unfold G.joinS; rw [hs]
  clear hb1 hbv hw1 hs
  go_enter Try.func58, Try.ntmps58
  go_wp2_with (fail)
  refine (newFn w).mono ?_
  rintro e w1' ⟨rfl, rfl⟩
  rw [← HW1.out]
  clear HW1
  go_wp2_with (fail)
  refine HU.out.mono ?_
  rintro e w2 ⟨rfl, ⟨v2, hv2⟩, hb2⟩
  have HB2 : Hid (Below w.heap.size w w2) := HB1.out.trans hb2
  have HC := bufString hv2
  rw [HS.out] at HC
  have HCC := Lib.hid HC
  clear hv2 hb2 HU HC
  go_wp2_with (fail)
  refine HCC.out.mono ?_
  rintro e w3 ⟨rfl, rfl⟩
  clear HCC
  go_wp2
  go_ret
  exact ⟨by rw [HJ.out]; rfl, HB2.out⟩
end Go.Proofs.Ytokkjifmgmngjaa.B32
end
