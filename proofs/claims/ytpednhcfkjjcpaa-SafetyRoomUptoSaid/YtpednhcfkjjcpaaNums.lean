/- Bytes as numbers: the walks of codec.Reader.Uint and of net.numbers. -/
import Derived.Test.YtpednhcfkjjcpaaDec
namespace Go.Proofs.Ytpednhcfkjjcpaa
open Go.RowKit
set_option linter.unusedVariables false
set_option linter.unusedSimpArgs false

theorem decF_pos : ∀ (f k n : Nat) (l : Bs) {m j : Nat}, decF f k n l = .ok m j → k < j ∧ j - k ≤ l.length ∧ j ≤ k + f ∧ (n < 128 ^ k → k + f = 10 → m < 18446744073709551616)
  | 0, k, n, l, m, j, h => by rw [decF] at h; cases h
  | f + 1, k, n, [], m, j, h => by rw [decF] at h; cases h
  | f + 1, k, n, x :: r, m, j, h => by
    rw [decF] at h
    split at h
    · cases h
    · rename_i hb
      split at h
      · rename_i hx
        split at h
        · cases h
        · injection h with h1 h2
          subst h1 h2
          refine ⟨by omega, by simp, by omega, fun hn hf => ?_⟩
          have h9 : k ≤ 9 := by omega
          have hn2 : n < 128 ^ 9 := Nat.lt_of_lt_of_le hn (Nat.pow_le_pow_right (by omega) h9)
          by_cases h8 : k = 9
          · subst h8
            have : x.toNat ≤ 1 := by omega
            have := Nat.mul_le_mul_right (128 ^ 9) this
            have h63 : (128 : Nat) ^ 9 = 9223372036854775808 := by decide
            omega
          · have h1 : x.toNat * 128 ^ k ≤ 127 * 128 ^ 8 := Nat.mul_le_mul (by omega) (Nat.pow_le_pow_right (by omega) (by omega))
            have h2 : n < 128 ^ 8 := Nat.lt_of_lt_of_le hn (Nat.pow_le_pow_right (by omega) (by omega))
            have h63 : (128 : Nat) ^ 8 = 72057594037927936 := by decide
            omega
      · rename_i hx
        obtain ⟨h1, h2, h3, h4⟩ := decF_pos f (k + 1) _ r h
        refine ⟨by omega, by simp; omega, by omega, fun hn hf => h4 ?_ (by omega)⟩
        rw [Nat.pow_succ]
        have : x.toNat % 128 * 128 ^ k ≤ 127 * 128 ^ k := Nat.mul_le_mul_right _ (by omega)
        omega
theorem dec_pos {l : Bs} {m j : Nat} (h : dec l = .ok m j) : 0 < j ∧ j ≤ l.length ∧ m < 18446744073709551616 := by
  obtain ⟨h1, h2, _, h4⟩ := decF_pos 10 0 0 l h
  exact ⟨h1, h2, h4 (by decide) rfl⟩
theorem readFn (s : ByteArray) (w : World) : Calls Try.prog 86 #[.string s] w fun e w' => e = .returned (.pointer (some ⟨w.heap.size, 0, none⟩)) ∧ w' = w.alloc (.cells #[.string s, .int .i64 0] 180) := by
  go_enter Try.func86, Try.ntmps86
  go_wp2
  go_ret
  exact ⟨rfl, rfl⟩
abbrev RdV (w : World) (B : Nat) (s : ByteArray) (i : Nat) : Prop := Holds w B 180 [.string s, .int .i64 (i : Int)]
def UintR (w : World) (B : Nat) (s : ByteArray) (i : Nat) (d : Dn) (e : Ending) (w' : World) : Prop :=
  Fr (fun k => k = B) w w' ∧ match d with
  | .cut => e = .returned (.tuple #[.int .u64 0, .int .i64 10]) ∧ RdV w' B s i
  | .form => e = .returned (.tuple #[.int .u64 0, .int .i64 11]) ∧ RdV w' B s i
  | .ok n k => e = .returned (.tuple #[.int .u64 (n : Int), .int .i64 0]) ∧ RdV w' B s (i + k)
set_option maxHeartbeats 1000000 in
set_option maxRecDepth 100000 in
theorem rdUint {w : World} {B i : Nat} {s : ByteArray} (h : RdV w B s i) (hi : i ≤ s.size) (hs : s.size ≤ 1048576) :
    Calls Try.prog 87 #[.pointer (some ⟨B, 0, none⟩)] w (UintR w B s i (dec (s.data.toList.drop i))) := by
  have hC := decFn h hi hs
  cases hd : dec (s.data.toList.drop i) with
  | cut =>
    unfold DecPost at hC
    rw [hd] at hC
    have HC := Lib.hid hC
    have H := Lib.hid h
    clear hC hd h
    go_enter Try.func87, Try.ntmps87
    go_wp2_with (fail)
    refine HC.out.mono ?_
    rintro e w1 ⟨hB, rfl⟩
    have HF : Hid (UintR w B s i .cut (.returned (.tuple #[.int .u64 0, .int .i64 10])) w1) := ⟨Fr.of_below hB _, rfl, H.out.belowAll hB⟩
    clear hB HC
    go_wp2
    go_ret2
    exact HF.out
  | form =>
    unfold DecPost at hC
    rw [hd] at hC
    have HC := Lib.hid hC
    have H := Lib.hid h
    clear hC hd h
    go_enter Try.func87, Try.ntmps87
    go_wp2_with (fail)
    refine HC.out.mono ?_
    rintro e w1 ⟨hB, rfl⟩
    have HF : Hid (UintR w B s i .form (.returned (.tuple #[.int .u64 0, .int .i64 11])) w1) := ⟨Fr.of_below hB _, rfl, H.out.belowAll hB⟩
    clear hB HC
    go_wp2
    go_ret2
    exact HF.out
  | ok n k =>
    unfold DecPost at hC
    rw [hd] at hC
    have hk := (dec_pos hd).2.1
    rw [List.length_drop] at hk
    have hk2 : i + k ≤ s.size := by have : s.data.toList.length = s.size := by simp
                                    omega
    have hw1 : IntKind.i64.wrap ((i : Int) + (k : Int)) = (i : Int) + (k : Int) := by rw [IntKind.wrap_i64]; omega
    have HC := Lib.hid hC
    have H := Lib.hid h
    clear hC hd h hk
    go_enter Try.func87, Try.ntmps87
    go_wp2_with (fail)
    refine HC.out.mono ?_
    rintro e w1 ⟨hB, rfl⟩
    have hH1 := H.out.belowAll hB
    have e0 := hH1.cell 0
    have e1 := hH1.cell 1
    have z1 := hH1.free 1
    simp only [List.getElem?_cons_zero, List.getElem?_cons_succ] at e0 e1
    have HF : Hid (UintR w B s i (.ok n k) (.returned (.tuple #[.int .u64 (n : Int), .int .i64 0])) (w1.setCell ⟨B, 1, none⟩ (.int .i64 ((i : Int) + (k : Int))))) :=
      ⟨Fr.setCell (F := fun k => k = B) (p := ⟨B, 1, none⟩) (Fr.of_below hB _) (fun _ => rfl) _, rfl, by
        have := hH1.put 1 (.int .i64 ((i : Int) + (k : Int)))
        show Holds _ _ _ [.string s, .int .i64 ((i + k : Nat) : Int)]
        simpa using this⟩
    clear hB HC hH1 H
    go_wp2
    go_ret2
    exact HF.out
theorem rdLeft {w : World} {B i : Nat} {s : ByteArray} (h : RdV w B s i) (hi : i ≤ s.size) (hs : s.size ≤ 1048576) :
    Calls Try.prog 88 #[.pointer (some ⟨B, 0, none⟩)] w fun e w' => e = .returned (.int .i64 ((s.size : Int) - (i : Int))) ∧ Below w.heap.size w w' := by
  have e0 := h.cell 0
  have e1 := h.cell 1
  simp only [List.getElem?_cons_zero, List.getElem?_cons_succ] at e0 e1
  have hw1 : IntKind.i64.wrap ((s.size : Int) - (i : Int)) = (s.size : Int) - (i : Int) := by rw [IntKind.wrap_i64]; omega
  clear h
  go_enter Try.func88, Try.ntmps88
  go_wp2
  go_quiet (fail)
  go_wp2
  go_ret
  exact ⟨rfl, ⟨rfl, rfl, rfl, Nat.le_refl _, fun _ _ => rfl⟩⟩
/-- So many numbers, each at most b. -/
def nums (b : Nat) : Nat → Bs → Option (List Nat × Bs)
  | 0, l => some ([], l)
  | m + 1, l => match dec l with
    | .ok n k => if b < n then none else match nums b m (l.drop k) with
      | some p => some (n :: p.1, p.2)
      | none => none
    | _ => none
theorem nums_len {b : Nat} : ∀ (m : Nat) (l : Bs) {ns : List Nat} {r : Bs}, nums b m l = some (ns, r) → ns.length = m
  | 0, l, ns, r, h => by rw [nums] at h; injection h with h; injection h with h1 _; subst h1; rfl
  | m + 1, l, ns, r, h => by
    rw [nums] at h
    split at h
    · split at h
      · cases h
      · split at h
        · rename_i p hp
          injection h with h; injection h with h1 _
          subst h1
          rw [List.length_cons, nums_len m _ (ns := p.1) (r := p.2) hp]
        · cases h
    · cases h
/-- What stands behind numbers that have been read. -/
def numsOf (b : Nat) (acc : List Nat) (p : Option (List Nat × Bs)) : Option (List Nat × Bs) := p.map fun p => (acc ++ p.1, p.2)
def NumsPost (r : Option (List Nat × Bs)) (w : World) (e : Ending) (w' : World) : Prop :=
  Below w.heap.size w w' ∧ match r with
  | none => e = .returned (.tuple #[.slice none 0 0, .bool false])
  | some (ns, l) => ∃ v, e = .returned (.tuple #[v, .bool l.isEmpty]) ∧ w'.ownsRow w.heap.size 3 1 v ns.length (ns.map natV)
theorem info_int : (Try.prog.info? 3).map (fun i => (i.zero.map fun z => z.cells.size, i.size, i.bytes)) = some (some 1, 1, 8) := by kernel_rfl
theorem isEmpty_drop {l : Bs} {i : Nat} (h : i ≤ l.length) : (l.drop i).isEmpty = decide (l.length = i) := by
  cases hl : l.drop i with
  | nil => 
    have := List.length_drop (i := i) (l := l)
    rw [hl] at this
    simp at this
    simp; omega
  | cons a r =>
    have := List.length_drop (i := i) (l := l)
    rw [hl] at this
    simp at this
    simp; omega
set_option maxHeartbeats 1000000 in
set_option maxRecDepth 100000 in
theorem numbersFn {w : World} {s : ByteArray} {m : Nat} (hs : s.size ≤ 1048576) (hm : m ≤ 1000) : Calls Try.prog 83 #[.string s, .int .i64 (m : Int)] w (NumsPost (nums 20000 m s.data.toList) w) := by
  obtain ⟨i0, z0, hi0, hz0, hz1, hz2, hz3⟩ := info_of info_int
  obtain ⟨r, hr⟩ : ∃ r, nums 20000 m s.data.toList = r := ⟨_, rfl⟩
  rw [hr]
  have HR := Lib.hid hr
  have HC := Lib.hid (readFn s w)
  clear hr
  go_enter Try.func83, Try.ntmps83
  go_wp2_with (fail)
  refine HC.out.mono ?_
  rintro e w1 ⟨rfl, hw1⟩
  have hB1 : Below w.heap.size w w1 := by rw [hw1]; exact (Below.refl _ _).alloc (Nat.le_refl _) _
  have hV1 : RdV w1 w.heap.size s 0 := by rw [hw1]; exact Holds.new w 180 #[.string s, .int .i64 0]
  have HB1 := Lib.hid hB1
  have HV1 := Lib.hid hV1
  clear hw1 hB1 hV1 HC
  go_wp2
  go_loopw [7, 13] (fun y x wr => ∃ (k i : Nat) (acc : List Nat), x = .int .i64 (k : Int) ∧ k ≤ m ∧ acc.length = k ∧ i ≤ s.size ∧ Hid (numsOf 20000 acc (nums 20000 (m - k) (s.data.toList.drop i)) = r) ∧ Hid (RdV wr w.heap.size s i) ∧ Hid (wr.ownsRow w.heap.size 3 1 y acc.length (acc.map natV)) ∧ Hid (Below w.heap.size w wr)) (fun _ x _ => m - (intOf x).toNat)
  case atStart => exact ⟨0, 0, [], rfl, Nat.zero_le _, rfl, Nat.zero_le _, by show numsOf _ _ _ = r; rw [← HR.out]; simp [numsOf], HV1.out, World.ownsRow_nil _ _ _ _, HB1.out⟩
  case round =>
    obtain ⟨k, i, acc, hx, hk, hal, hi, HX, HV, HO, HB⟩ := hrel
    subst hx
    obtain ⟨ya, yc, rfl, _, _⟩ := owns_form HO.out
    have HAL := Lib.hid hal
    by_cases hkm : k < m
    · have hk2 : (k : Int) < (m : Int) := by omega
      have hwk1 : IntKind.i64.wrap ((k : Int) + 1) = (k : Int) + 1 := by rw [IntKind.wrap_i64]; omega
      obtain ⟨f, hf⟩ : ∃ f, m - k = f + 1 := ⟨m - k - 1, by omega⟩
      have hX := HX.out
      rw [hf, nums] at hX
      have hC := rdUint HV.out hi hs
      cases hd : dec (s.data.toList.drop i) with
      | cut =>
        rw [hd] at hX hC
        have HC := Lib.hid hC
        have HF : Hid (∀ w2, Below w.heap.size w w2 → NumsPost r w (.returned (.tuple #[.slice none 0 0, .bool false])) w2) := fun w2 hb => by rw [← hX]; exact ⟨hb, rfl⟩
        clear hX hC hd hf HX HV hal
        go_wp2_with (fail)
        refine HC.out.mono ?_
        rintro e w2 ⟨hF, rfl, hV⟩
        have hB2 : Below w.heap.size w w2 := HB.out.trans (hF.to_below HB.out.size fun k hk e => by omega)
        have HF2 := Lib.hid (HF.out w2 hB2)
        clear hF hV HF HC hB2
        go_wp2
        go_ret2
        exact HF2.out
      | form =>
        rw [hd] at hX hC
        have HC := Lib.hid hC
        have HF : Hid (∀ w2, Below w.heap.size w w2 → NumsPost r w (.returned (.tuple #[.slice none 0 0, .bool false])) w2) := fun w2 hb => by rw [← hX]; exact ⟨hb, rfl⟩
        clear hX hC hd hf HX HV hal
        go_wp2_with (fail)
        refine HC.out.mono ?_
        rintro e w2 ⟨hF, rfl, hV⟩
        have hB2 : Below w.heap.size w w2 := HB.out.trans (hF.to_below HB.out.size fun k hk e => by omega)
        have HF2 := Lib.hid (HF.out w2 hB2)
        clear hF hV HF HC hB2
        go_wp2
        go_ret2
        exact HF2.out
      | ok n j =>
        have hdp := dec_pos hd
        rw [List.length_drop] at hdp
        have hij : i + j ≤ s.size := by have : s.data.toList.length = s.size := by simp
                                        omega
        rw [hd] at hX hC
        simp only at hX
        have HC := Lib.hid hC
        by_cases hbn : 20000 < n
        · rw [if_pos hbn] at hX
          have d1 : decide ((20000 : Int) < (n : Int)) = true := decide_eq_true (by omega)
          have HF : Hid (∀ w2, Below w.heap.size w w2 → NumsPost r w (.returned (.tuple #[.slice none 0 0, .bool false])) w2) := fun w2 hb => by rw [← hX]; exact ⟨hb, rfl⟩
          clear hX hC hd hf HX HV hal hdp hij hbn
          go_wp2_with (fail)
          refine HC.out.mono ?_
          rintro e w2 ⟨hF, rfl, hV⟩
          have hB2 : Below w.heap.size w w2 := HB.out.trans (hF.to_below HB.out.size fun k hk e => by omega)
          have HF2 := Lib.hid (HF.out w2 hB2)
          clear hF hV HF HC hB2
          go_wp2
          go_ret2
          exact HF2.out
        · rw [if_neg hbn] at hX
          have d1 : decide ((20000 : Int) < (n : Int)) = false := decide_eq_false (by omega)
          have hcv : IntKind.i64.wrap (n : Int) = (n : Int) := by rw [IntKind.wrap_i64]; omega
          have hX2 : numsOf 20000 (acc ++ [n]) (nums 20000 (m - (k + 1)) (s.data.toList.drop (i + j))) = r := by
            rw [← hX, show m - (k + 1) = f by omega, ← List.drop_drop]
            unfold numsOf
            cases nums 20000 f (List.drop j (List.drop i s.data.toList)) with
            | none => rfl
            | some p => simp
          have HX2 := Lib.hid hX2
          have HV3 := Lib.hid HV.out
          clear hX hC hd hf HX HV hdp hbn hX2 hal
          go_wp2_with (fail)
          refine HC.out.mono ?_
          rintro e w2 ⟨hF, rfl, hV⟩
          have hB2 : Below w.heap.size w w2 := HB.out.trans (hF.to_below HB.out.size fun k hk e => by omega)
          have hO2 : w2.ownsRow w.heap.size 3 1 (.slice ya acc.length yc) acc.length (acc.map natV) := Fr.owns hF HO.out fun g hg e => by
            subst e
            exact owns_ne_holds (Fr.owns (F := fun _ => False) (Fr.refl _ _) HO.out (fun _ _ h => h)) (by have := HV3.out; exact this) (by decide) hg
          have HB2 := Lib.hid hB2
          have HO2 := Lib.hid hO2
          have HV2 := Lib.hid hV
          clear hF hV HC hB2 hO2
          go_wp2_with (at_builtin; refine wpList_append_own_at _ rfl (.tmp 26) (.tmp 29) _ rfl w.heap.size 3 i0 z0 1 8 Try.underlying47 hi0 hz0 hz1 hz2 hz3 (by omega) (.slice ya acc.length yc) acc.length (acc.map natV) rfl (HO2.out.alloc _) ⟨w2.heap.size, 0, none⟩ 1 1 [.int .i64 (n : Int)] rfl rfl ?c1 ?c2 ?c3 ?c4 ?c5 ?_)
          case c1 => exact cell_one_new _ _ _
          case c2 => simp [Value.oneCell']
          case c3 => have := HAL.out; unfold maxLen; omega
          case c4 => have := HAL.out; omega
          case c5 => have := HB2.out.size; simp; omega
          intro v' w7 hown hgrow _ _
          have hB7 := (HB2.out.alloc HB2.out.size _).grown hgrow (by have := HB2.out.size; simp; omega) fun k hk => (HO2.out.lt k hk).1
          have hown7 : w7.ownsRow w.heap.size 3 1 v' (acc ++ [n]).length ((acc ++ [n]).map natV) := by
            rw [List.length_append, List.map_append, List.length_singleton]
            exact hown
          have hV7 : RdV w7 w.heap.size s (i + j) := (HV2.out.alloc _).of_eq (hgrow.block _ (HV2.out.alloc _).lt fun e => owns_ne_holds HO2.out HV2.out (by decide) e.symm)
          have HB7 := Lib.hid hB7
          have HO7 := Lib.hid hown7
          have HV7 := Lib.hid hV7
          have hal2 : (acc ++ [n]).length = k + 1 := by rw [List.length_append, List.length_singleton, HAL.out]
          have HA7 := Lib.hid hal2
          clear hown hgrow HO HB HB2 HO2 HV2 hB7 hown7 hV7 hal2
          go_wp2
          refine ⟨⟨k + 1, i + j, acc ++ [n], by simp, by omega, HA7.out, by omega, HX2, HV7, HO7, HB7⟩, ?_⟩
          simp [intOf]
          omega
    · have hk3 : k = m := by omega
      subst hk3
      have hX := HX.out
      rw [Nat.sub_self, nums] at hX
      unfold numsOf at hX
      simp only [Option.map_some, List.append_nil] at hX
      have hC := rdLeft HV.out hi hs
      have he : (s.data.toList.drop i).isEmpty = ((s.size : Int) - (i : Int) == 0) := by
        rw [isEmpty_drop (by simpa using hi)]
        have : s.data.toList.length = s.size := by simp
        rw [this, Bool.eq_iff_iff]
        simp
        omega
      have HF : Hid (∀ w2, Below w.heap.size w w2 → w2.ownsRow w.heap.size 3 1 (.slice ya acc.length yc) acc.length (acc.map natV) → NumsPost r w (.returned (.tuple #[.slice ya acc.length yc, .bool ((s.size : Int) - (i : Int) == 0)])) w2) := fun w2 hb ho => by
        rw [← hX, ← he]; exact ⟨hb, _, rfl, ho⟩
      have HC := Lib.hid hC
      clear hX hC HX HV he hal
      go_wp2_with (fail)
      refine HC.out.mono ?_
      rintro e w2 ⟨rfl, hb⟩
      have HF2 := Lib.hid (HF.out w2 (HB.out.trans (hb.mono HB.out.size)) (owns_below HO.out hb))
      clear HF hb HC
      go_wp2
      go_ret2
      exact HF2.out
end Go.Proofs.Ytpednhcfkjjcpaa
