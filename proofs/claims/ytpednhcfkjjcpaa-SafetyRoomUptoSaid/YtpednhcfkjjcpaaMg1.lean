/- Enc, Buf, joined. -/
import Derived.Test.YtpednhcfkjjcpaaNa
import Derived.Laws.BytesArg
import Derived.Laws.IdiomStrings
section
/- Numbers as bytes: plain, and the walks of codec.number and of the document's. -/
namespace Go.Proofs.Ytpednhcfkjjcpaa
open Go.RowKit
set_option linter.unusedVariables false
set_option linter.unusedSimpArgs false

abbrev Bs := List UInt8
def byteV (b : UInt8) : Value := .int .u8 (b.toNat : Int)
/-- A number's bytes. -/
def enc (n : Nat) : Bs := if n < 128 then [UInt8.ofNat n] else UInt8.ofNat (128 + n % 128) :: enc (n / 128)
termination_by n
theorem enc_lt {n : Nat} (h : n < 128) : enc n = [UInt8.ofNat n] := by rw [enc, if_pos h]
theorem enc_ge {n : Nat} (h : ¬ n < 128) : enc n = UInt8.ofNat (128 + n % 128) :: enc (n / 128) := by rw [enc, if_neg h]
theorem enc_len : ∀ (k n : Nat), n < 128 ^ (k + 1) → (enc n).length ≤ k + 1
  | 0, n, h => by rw [enc_lt (by simpa using h)]; simp
  | k + 1, n, h => by
    by_cases hn : n < 128
    · rw [enc_lt hn]; simp
    · rw [enc_ge hn, List.length_cons]
      have := enc_len k (n / 128) (by rw [Nat.div_lt_iff_lt_mul (by omega)]; rw [Nat.pow_succ] at h; exact h)
      omega
theorem enc_len64 {n : Nat} (h : n < 18446744073709551616) : (enc n).length ≤ 10 := enc_len 9 n (Nat.lt_of_lt_of_le h (by decide))
theorem enc_pos (n : Nat) : 0 < (enc n).length := by
  by_cases h : n < 128
  · rw [enc_lt h]; simp
  · rw [enc_ge h]; simp
theorem u8_of {n : Nat} (h : n < 256) : ((UInt8.ofNat n).toNat : Int) = (n : Int) := by
  rw [UInt8.toNat_ofNat']
  omega
set_option maxRecDepth 100000 in
theorem or_128 : ∀ c : Fin 256, bits BinOp.or IntKind.u8 (c.val : Int) 128 = ((128 + c.val % 128 : Nat) : Int) := by decide
theorem or128 (m : Nat) : bits BinOp.or IntKind.u8 ((m : Int) % 256) 128 = ((128 + m % 128 : Nat) : Int) := by
  have h := or_128 ⟨m % 256, Nat.mod_lt _ (by omega)⟩
  have h1 : ((m : Int) % 256) = ((m % 256 : Nat) : Int) := by omega
  rw [h1]
  have h2 : m % 256 % 128 = m % 128 := by omega
  simpa [h2] using h
theorem info_u8 : (Try.prog.info? 5).map (fun i => (i.zero.map fun z => z.cells.size, i.size, i.bytes)) = some (some 1, 1, 1) := by kernel_rfl

def EncPost (n : Nat) (w : World) (e : Ending) (w' : World) : Prop :=
  ∃ v, e = .returned v ∧ w'.ownsRow w.heap.size 5 1 v (enc n).length ((enc n).map byteV) ∧ Below w.heap.size w w'
set_option maxHeartbeats 1000000 in
set_option maxRecDepth 100000 in
theorem numberFn {n : Nat} (hn : n < 18446744073709551616) (w : World) : Calls Try.prog 85 #[.int .u64 (n : Int)] w (EncPost n w) := by
  have HN := Lib.hid hn
  clear hn
  obtain ⟨i0, z0, hi0, hz0, hz1, hz2, hz3⟩ := info_of info_u8
  go_enter Try.func85, Try.ntmps85
  go_wp2
  go_loopw [0, 3] (fun x y wr => ∃ (m : Nat) (acc : Bs), x = .int .u64 (m : Int) ∧ Hid (m < 18446744073709551616) ∧ Hid (acc ++ enc m = enc n) ∧ Hid (wr.ownsRow w.heap.size 5 1 y acc.length (acc.map byteV)) ∧ Hid (Below w.heap.size w wr)) (fun x _ _ => (intOf x).toNat)
  case atStart => exact ⟨n, [], rfl, HN.out, rfl, World.ownsRow_nil _ _ _ _, Below.refl _ _⟩
  case round =>
    obtain ⟨m, acc, hx, hm, HE, HO, HB⟩ := hrel
    subst hx
    have hal : acc.length ≤ 10 := by
      have h1 := congrArg List.length HE.out
      rw [List.length_append] at h1
      have := enc_len64 HN.out
      omega
    have HL := Lib.hid hal
    by_cases hl : m < 128
    · have d1 : decide ((128 : Int) ≤ (m : Int)) = false := decide_eq_false (by omega)
      clear hal
      go_wp2_with (at_builtin; refine wpList_append_own_at _ rfl (.tmp 14) (.tmp 17) _ rfl w.heap.size 5 i0 z0 1 1 Try.underlying169 hi0 hz0 hz1 hz2 hz3 (by omega) u3 acc.length (acc.map byteV) rfl (HO.out.alloc _) ⟨wr.heap.size, 0, none⟩ 1 1 [.int .u8 (m : Int)] rfl rfl ?c1 ?c2 ?c3 ?c4 ?c5 ?_)
      case c1 => exact cell_one_new _ _ _
      case c2 => simp [Value.oneCell']
      case c3 => have := HL.out; unfold maxLen; omega
      case c4 => have := HL.out; omega
      case c5 => have := HB.out.size; simp; omega
      intro v' w7 hown hgrow _ _
      have hfin : EncPost n w (.returned v') w7 := by
        refine ⟨v', rfl, ?_, (HB.out.alloc HB.out.size _).grown hgrow (by have := HB.out.size; simp; omega) fun k hk => (HO.out.lt k hk).1⟩
        have he := HE.out
        rw [enc_lt hl] at he
        rw [← he, List.length_append, List.map_append, List.length_singleton]
        have hb : byteV (UInt8.ofNat m) = .int .u8 (m : Int) := by unfold byteV; rw [u8_of (by omega)]
        simp only [List.map_cons, List.map_nil, hb]
        exact hown
      have HF := Lib.hid hfin
      clear hfin hown hgrow HE HO HB HL
      go_wp2
      go_ret
      exact HF.out
    · have d1 : decide ((128 : Int) ≤ (m : Int)) = true := decide_eq_true (by omega)
      have hor := or128 m
      clear hal
      go_wp2_with (at_builtin; refine wpList_append_own_at _ rfl (.tmp 6) (.tmp 10) _ rfl w.heap.size 5 i0 z0 1 1 Try.underlying169 hi0 hz0 hz1 hz2 hz3 (by omega) u3 acc.length (acc.map byteV) rfl (HO.out.alloc _) ⟨wr.heap.size, 0, none⟩ 1 1 [.int .u8 (128 + (m : Int) % 128)] rfl rfl ?c1 ?c2 ?c3 ?c4 ?c5 ?_)
      case c1 => exact cell_one_new _ _ _
      case c2 => simp [Value.oneCell']
      case c3 => have := HL.out; unfold maxLen; omega
      case c4 => have := HL.out; omega
      case c5 => have := HB.out.size; simp; omega
      intro v' w7 hown hgrow _ _
      have hB7 := (HB.out.alloc HB.out.size _).grown hgrow (by have := HB.out.size; simp; omega) fun k hk => (HO.out.lt k hk).1
      have hown7 : w7.ownsRow w.heap.size 5 1 v' (acc ++ [UInt8.ofNat (128 + m % 128)]).length ((acc ++ [UInt8.ofNat (128 + m % 128)]).map byteV) := by
        rw [List.length_append, List.map_append, List.length_singleton]
        have hb : byteV (UInt8.ofNat (128 + m % 128)) = .int .u8 (128 + (m : Int) % 128) := by unfold byteV; rw [u8_of (by omega)]; congr 1
        simp only [List.map_cons, List.map_nil, hb]
        exact hown
      have he7 : (acc ++ [UInt8.ofNat (128 + m % 128)]) ++ enc (m / 128) = enc n := by rw [← HE.out, enc_ge hl, List.append_assoc]; rfl
      have HB7 := Lib.hid hB7
      have HO7 := Lib.hid hown7
      have HE7 := Lib.hid he7
      clear hown hgrow HE HO HB HL hB7 hown7 he7 hor
      go_wp2
      refine ⟨⟨m / 128, acc ++ [UInt8.ofNat (128 + m % 128)], by simp, ?_, HE7, HO7, HB7⟩, ?_⟩
      · have := hm.out
        show m / 128 < 18446744073709551616
        omega
      · simp [intOf]
        omega
end Go.Proofs.Ytpednhcfkjjcpaa
end
section
/- The walks of codec.Buffer's methods, and of net.bytes. -/
namespace Go.Proofs.Ytpednhcfkjjcpaa
open Go.RowKit
set_option linter.unusedVariables false
set_option linter.unusedSimpArgs false

def natV (n : Nat) : Value := .int .i64 (n : Int)
/-- Numbers' bytes, one behind the other. -/
def encs (l : List Nat) : Bs := l.flatMap enc
theorem newFn (w : World) : Calls Try.prog 80 #[.int .i64 16777216] w fun e w' => e = .returned (.pointer (some ⟨w.heap.size, 0, none⟩)) ∧ w' = w.alloc (.cells #[.slice none 0 0, .int .i64 16777216] 171) := by
  go_enter Try.func80, Try.ntmps80
  go_wp2
  go_ret
  exact ⟨rfl, rfl⟩
/-- A buffer that is the call's own, with these bytes. -/
structure BufV (w : World) (base B : Nat) (v : Value) (s : Bs) : Prop where
  box : Holds w B 171 [v, .int .i64 16777216]
  row : w.ownsRow base 5 1 v s.length (s.map byteV)
  low : base ≤ B
theorem BufV.below {w w' : World} {base B : Nat} {v : Value} {s : Bs} (h : BufV w base B v s) (hb : Below w.heap.size w w') : BufV w' base B v s := ⟨h.box.belowAll hb, owns_below h.row hb, h.low⟩
theorem byte_one : ∀ (l : Bs), ∀ u ∈ l.map byteV, u.oneCell' = true := fun l u h => by
  obtain ⟨b, _, rfl⟩ := List.mem_map.1 h
  rfl
def PutPost (w : World) (base B : Nat) (s : Bs) (e : Ending) (w' : World) : Prop := e = .returned (.int .i64 0) ∧ (∃ v, BufV w' base B v s) ∧ Below base w w'
set_option maxHeartbeats 1000000 in
set_option maxRecDepth 100000 in
theorem putFn {w : World} {base B : Nat} {v : Value} {s t : Bs} {P : Nat → Prop} {vt : Value} (h : BufV w base B v s) (ht : RowL P w 1 vt t.length (t.map byteV)) (hl : s.length + t.length ≤ 16777216) :
    Calls Try.prog 84 #[.pointer (some ⟨B, 0, none⟩), vt] w (PutPost w base B (s ++ t)) := by
  obtain ⟨i0, z0, hi0, hz0, hz1, hz2, hz3⟩ := info_of info_u8
  obtain ⟨a, c, rfl, hc1, hc2, _⟩ := ht.form
  obtain ⟨a2, c2, rfl, _, _⟩ := owns_form h.row
  obtain ⟨N, hN⟩ : ∃ N, t.length = N := ⟨_, rfl⟩
  obtain ⟨M, hM⟩ : ∃ M, s.length = M := ⟨_, rfl⟩
  have e0 := h.box.cell 0
  have e1 := h.box.cell 1
  simp only [List.getElem?_cons_zero, List.getElem?_cons_succ] at e0 e1
  have H := Lib.hid h
  have HT := Lib.hid ht
  have HN := Lib.hid hN
  have HM := Lib.hid hM
  rw [hN] at hl hc1 ⊢
  rw [hM] at hl e0
  have d1 : decide ((16777216 : Int) - (M : Int) < (N : Int)) = false := decide_eq_false (by omega)
  have hw1 : IntKind.i64.wrap ((16777216 : Int) - (M : Int)) = (16777216 : Int) - (M : Int) := by rw [IntKind.wrap_i64]; omega
  have HLM := Lib.hid hl
  clear hN hM h ht hl
  go_enter Try.func84, Try.ntmps84
  go_wp2
  go_quiet (fail)
  have hB0 : Below w.heap.size w (w.drewN nq) := ⟨rfl, rfl, rfl, Nat.le_refl _, fun _ _ => rfl⟩
  have H' := Lib.hid (H.out.below hB0)
  have HT' := Lib.hid (HT.out.up (Keep.below hB0))
  clear hB0 hw1 d1
  go_wp2_with (at_builtin; refine wpList_append_row rfl (.tmp 22) (.tmp 23) _ rfl base 5 i0 z0 1 1 Try.underlying169 hi0 hz0 hz1 hz2 hz3 (by omega) (.slice a2 M c2) M (s.map byteV) rfl (by have := H'.out.row; rwa [HM.out] at this) _ N (t.map byteV) rfl (by have := HT'.out; rwa [HN.out] at this) (byte_one t) (by have := HLM.out; unfold maxLen; omega) (by have := HLM.out; omega) (by have h1 := H'.out.low; have h2 := H'.out.box.lt; omega) ?_)
  intro v' w2 hown hgr hat
  obtain ⟨a3, c3, rfl, _, _⟩ := owns_form hown
  have hbox : Holds w2 B 171 [.slice a2 M c2, .int .i64 16777216] := by
    have hb := H'.out.box
    rw [HM.out] at hb
    exact hb.of_eq (hgr.block B hb.lt fun e => owns_ne_holds (by have := H'.out.row; rwa [HM.out] at this) hb (by decide) e.symm)
  have f0 := hbox.cell 0
  have z0 := hbox.free 0
  simp only [List.getElem?_cons_zero] at f0
  have hfin : PutPost w base B (s ++ t) (.returned (.int .i64 0)) (w2.setCell ⟨B, 0, none⟩ (.slice a3 (M + N) c3)) := by
    refine ⟨rfl, ⟨.slice a3 (M + N) c3, hbox.put 0 _, ?_, H'.out.low⟩, ?_⟩
    · rw [List.length_append, List.map_append, HN.out, HM.out]
      exact ((Fr.refl (fun i => i = B) w2).setCell (p := ⟨B, 0, none⟩) (fun _ => rfl) _).owns hown fun g hg e => owns_ne_holds hown hbox (by decide) (by rw [hg, e])
    · have h1 : Below base w (w.drewN nq) := ⟨rfl, rfl, rfl, Nat.le_refl _, fun _ _ => rfl⟩
      have hlt := H'.out.box.lt
      have hlo := H'.out.low
      exact (h1.grown hgr (by omega) fun k hk => by
        have := H'.out.row
        rw [HM.out] at this
        exact (this.lt k hk).1).setCell hlo _
  have HF := Lib.hid hfin
  clear hfin hbox hown hgr hat H H' HT HT' HN HM HLM hc1 hc2
  go_wp2
  go_ret
  exact HF.out
def UintPost := PutPost
theorem row_own {w : World} {base size n : Nat} {t : TypeId} {v : Value} {xs : List Value} (h : w.ownsRow base t size v n xs) : RowL (From base) w size v n xs := RowL.of_owns h fun _ h => h
set_option maxHeartbeats 1000000 in
set_option maxRecDepth 100000 in
theorem bufUint {w : World} {base B : Nat} {v : Value} {s : Bs} {n : Nat} (hn : n < 18446744073709551616) (h : BufV w base B v s) (hb : base ≤ w.heap.size) (hl : s.length ≤ 16777200) :
    Calls Try.prog 81 #[.pointer (some ⟨B, 0, none⟩), .int .u64 (n : Int)] w (PutPost w base B (s ++ enc n)) := by
  have HC := Lib.hid (numberFn hn w)
  have H := Lib.hid h
  have HL := Lib.hid hl
  have HN := Lib.hid (enc_len64 hn)
  clear hn h hl
  go_enter Try.func81, Try.ntmps81
  go_wp2_with (fail)
  refine HC.out.mono ?_
  rintro e w1 ⟨v1, rfl, ho, hB1⟩
  obtain ⟨a1, c1, rfl, _, _⟩ := owns_form ho
  have HP := Lib.hid (putFn (H.out.below hB1) (row_own ho) (by have := HL.out; have := HN.out; omega))
  have HB1 := Lib.hid hB1
  clear ho hB1 HC
  go_wp2_with (fail)
  refine HP.out.mono ?_
  rintro e w2 ⟨rfl, ⟨v2, hv2⟩, hB2⟩
  have hfin : PutPost w base B (s ++ enc n) (.returned (.int .i64 0)) w2 := ⟨rfl, ⟨v2, hv2⟩, (HB1.out.mono hb).trans hB2⟩
  have HF := Lib.hid hfin
  clear hfin hv2 hB2 HP
  go_wp2
  go_ret
  exact HF.out
theorem run_bytes_own {P : Program} {w : World} {base : Nat} {t e dst : TypeId} {v : Value} {s : Bs} (ht : P.underlying t = some (.slice e)) (he : P.underlying e = some (.int .u8)) (hd : P.underlying dst = some .string) (h : w.ownsRow base e 1 v s.length (s.map byteV)) :
    (convert t dst v).run P w = .ok (.string ⟨s.toArray⟩) w := by
  rcases h.2 with ⟨hv, h0⟩ | ⟨g, cap, cur, hv, hb, hg, hnc, hcm, hcs, htl⟩
  · subst hv
    have hs : s = [] := List.eq_nil_of_length_eq_zero h0
    subst hs
    exact run_convert_bytes_nil (P := P) w t e ht he 0 0 dst hd
  · subst hv
    refine run_convert_bytes_back (P := P) w t dst e ⟨g, 0, none⟩ cap s ht he hd (fun j hj => ?_)
    have hc := h.cellAt (g := g) (j := j) (by omega)
    rw [List.getElem?_map, List.getElem?_eq_getElem hj] at hc
    have ha : (⟨g, 0, none⟩ : Addr).add j = ⟨g, j, none⟩ := by rw [Addr.add_lit, Nat.zero_add]
    rw [ha]
    exact hc
set_option maxHeartbeats 1000000 in
theorem bufString {w : World} {base B : Nat} {v : Value} {s : Bs} (h : BufV w base B v s) :
    Calls Try.prog 82 #[.pointer (some ⟨B, 0, none⟩)] w fun e w' => e = .returned (.string ⟨s.toArray⟩) ∧ w' = w := by
  obtain ⟨a2, c2, rfl, _, _⟩ := owns_form h.row
  have e0 := h.box.cell 0
  simp only [List.getElem?_cons_zero] at e0
  have hconv := run_bytes_own (P := Try.prog) Try.underlying169 Try.underlying5 Try.underlying9 h.row
  obtain ⟨N, hN⟩ : ∃ N, s.length = N := ⟨_, rfl⟩
  rw [hN] at e0 hconv
  have H := Lib.hid hN
  clear hN h
  go_enter Try.func82, Try.ntmps82
  go_wp2
  go_ret
  exact ⟨rfl, rfl⟩
theorem encs_le {l : List Nat} (h : ∀ n ∈ l, n < 18446744073709551616) : (encs l).length ≤ 10 * l.length := by
  induction l with
  | nil => simp [encs]
  | cons a l ih =>
    have h1 := enc_len64 (h a (List.mem_cons_self ..))
    have h2 := ih fun n hn => h n (List.mem_cons_of_mem _ hn)
    unfold encs at h2 ⊢
    rw [List.flatMap_cons, List.length_append, List.length_cons]
    omega
theorem encs_take {l : List Nat} {k : Nat} (h : k < l.length) : encs (l.take (k + 1)) = encs (l.take k) ++ enc l[k] := by
  unfold encs
  rw [List.take_add_one, List.getElem?_eq_getElem h, Option.toList_some, List.flatMap_append]
  simp
def BytesPost (l : List Nat) (w : World) (e : Ending) (w' : World) : Prop := e = .returned (.string ⟨(encs l).toArray⟩) ∧ Below w.heap.size w w'
set_option maxHeartbeats 1000000 in
set_option maxRecDepth 100000 in
theorem bytesFn {w : World} {l : List Nat} {P : Nat → Prop} {v : Value} (h : RowL P w 1 v l.length (l.map natV)) (hl : ∀ n ∈ l, n < 9223372036854775808) (hn : l.length ≤ 1000) : Calls Try.prog 77 #[v] w (BytesPost l w) := by
  obtain ⟨a, c, rfl, hc1, hc2, _⟩ := h.form
  obtain ⟨N, hN⟩ : ∃ N, l.length = N := ⟨_, rfl⟩
  have H := Lib.hid h
  have HL := Lib.hid hl
  have HN := Lib.hid hN
  have HC := Lib.hid (newFn w)
  rw [hN] at hn hc1 ⊢
  clear h hl hN
  go_enter Try.func77, Try.ntmps77
  go_wp2_with (fail)
  refine HC.out.mono ?_
  rintro e w1 ⟨rfl, hw1⟩
  have hB1 : Below w.heap.size w w1 := by rw [hw1]; exact (Below.refl _ _).alloc (Nat.le_refl _) _
  have hV1 : BufV w1 w.heap.size w.heap.size (.slice none 0 0) [] := by
    rw [hw1]
    exact ⟨Holds.new w 171 #[.slice none 0 0, .int .i64 16777216], World.ownsRow_nil _ _ _ _, Nat.le_refl _⟩
  have HB1 := Lib.hid hB1
  have HV1 := Lib.hid hV1
  clear hw1 hB1 hV1 HC
  go_wp2
  go_loopw [9] (fun x wr => ∃ k : Nat, x = .int .i64 (k : Int) ∧ k ≤ N ∧ Hid (∃ v', BufV wr w.heap.size w.heap.size v' (encs (l.take k))) ∧ Hid (Below w.heap.size w wr)) (fun x _ => N - (intOf x).toNat)
  case atStart => exact ⟨0, rfl, Nat.zero_le _, ⟨_, HV1.out⟩, HB1.out⟩
  case round =>
    obtain ⟨k, hx, hk, HV, HB⟩ := hrel
    subst hx
    have hV := HV.out
    obtain ⟨v2, hv2⟩ := hV
    by_cases hkn : k < N
    · have hk2 : (k : Int) < (N : Int) := by omega
      have hk0 : (0 : Int) ≤ (k : Int) := by omega
      have hwk : IntKind.i64.wrap (k : Int) = (k : Int) := by rw [IntKind.wrap_i64]; omega
      have hwk1 : IntKind.i64.wrap ((k : Int) + 1) = (k : Int) + 1 := by rw [IntKind.wrap_i64]; omega
      have hkl : k < l.length := by rw [HN.out]; exact hkn
      obtain ⟨g1, o1, y1, x1, he1, hf1, hd1⟩ := (H.out.up (Keep.below HB.out)).at1 hkl
      injection he1 with he1 _ he1'
      subst he1 he1'
      rw [List.getElem?_map, List.getElem?_eq_getElem hkl] at hf1
      injection hf1 with hf1
      subst hf1
      have hlt := HL.out _ (List.getElem_mem hkl)
      have hlen : (encs (l.take k)).length ≤ 16777200 := by
        have h1 := encs_le (l := l.take k) fun n hn => Nat.lt_of_lt_of_le (HL.out n (List.mem_of_mem_take hn)) (by decide)
        have h2 : (l.take k).length ≤ 1000 := by rw [List.length_take]; omega
        omega
      obtain ⟨m, hm⟩ : ∃ m, l[k] = m := ⟨_, rfl⟩
      have hcon := bufUint (n := m) (by rw [← hm]; omega) hv2 HB.out.size hlen
      have hcv : IntKind.u64.wrap (m : Int) = (m : Int) := by rw [IntKind.wrap_u64]; rw [← hm]; omega
      have hen := encs_take hkl
      rw [hm] at hd1 hen
      have HC := Lib.hid hcon
      have HE := Lib.hid hen
      unfold natV at hd1
      clear hcon hen hm hlt hlen HV hv2
      go_wp2_with (fail)
      refine HC.out.mono ?_
      rintro e w2 ⟨rfl, hv3, hB2⟩
      have HV2 : Hid (∃ v', BufV w2 w.heap.size w.heap.size v' (encs (l.take (k + 1)))) := by show _; rw [HE.out]; exact hv3
      have HB2 := Lib.hid (HB.out.trans hB2)
      clear hv3 hB2 HC HE
      go_wp2
      refine ⟨⟨k + 1, by simp, by omega, HV2, HB2⟩, ?_⟩
      simp [intOf]
      omega
    · have hk3 : k = N := by omega
      subst hk3
      have HC := Lib.hid (bufString hv2)
      have HS : Hid (encs (l.take k) = encs l) := by show encs _ = encs _; rw [List.take_of_length_le (by rw [HN.out]; exact Nat.le_refl _)]
      clear HV hv2
      go_wp2_with (fail)
      refine HC.out.mono ?_
      rintro e w2 ⟨rfl, rfl⟩
      rw [HS.out]
      go_wp2
      go_ret
      exact ⟨rfl, HB.out⟩
end Go.Proofs.Ytpednhcfkjjcpaa
end
