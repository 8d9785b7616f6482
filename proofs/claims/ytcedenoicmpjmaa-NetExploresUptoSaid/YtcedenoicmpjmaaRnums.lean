/- Bytes as numbers: the document's Uint, Numbers (printed by mkrnums.py). -/
import Derived.Test.YtcedenoicmpjmaaRdec
namespace Go.Proofs.Ytcedenoicmpjmaa
open Go.RowKit
set_option linter.unusedVariables false
set_option linter.unusedSimpArgs false

abbrev RfV (w : World) (B : Nat) (s : ByteArray) (i : Nat) : Prop := Holds w B 108 [.string s, .int .i64 (i : Int)]
def RUintR (w : World) (B : Nat) (s : ByteArray) (i : Nat) (d : Dn) (e : Ending) (w' : World) : Prop :=
  Fr (fun k => k = B) w w' ∧ match d with
  | .cut => e = .returned (.tuple #[.int .u64 0, .int .i64 10]) ∧ RfV w' B s i
  | .form => e = .returned (.tuple #[.int .u64 0, .int .i64 11]) ∧ RfV w' B s i
  | .ok n k => e = .returned (.tuple #[.int .u64 (n : Int), .int .i64 0]) ∧ RfV w' B s (i + k)
/-- What stands in a number's answer. -/
def dnN : Dn → Nat | .ok n _ => n | _ => 0
def dnK : Dn → Nat | .ok _ k => k | _ => 0
def dnC : Dn → Nat | .ok _ _ => 0 | .cut => 10 | .form => 11
set_option maxHeartbeats 1000000 in
set_option maxRecDepth 100000 in
theorem refUint {w : World} {B i : Nat} {s : ByteArray} (h : RfV w B s i) (hi : i ≤ s.size) (hs : s.size ≤ 1048576) :
    Calls Try.prog 45 #[.pointer (some ⟨B, 0, none⟩)] w (RUintR w B s i (dec (s.data.toList.drop i))) := by
  have hC := refDecFn h hi hs
  obtain ⟨d, hd⟩ : ∃ d, dec (s.data.toList.drop i) = d := ⟨_, rfl⟩
  have hk2 : i + dnK d ≤ s.size := by
    cases d with
    | cut => exact hi
    | form => exact hi
    | ok n k =>
      have hk := (dec_pos hd).2.1
      rw [List.length_drop] at hk
      have : s.data.toList.length = s.size := by simp
      show i + k ≤ s.size
      omega
  rw [hd] at hC ⊢
  have hC2 : Calls Try.prog 46 #[.pointer (some ⟨B, 0, none⟩)] w fun e w' => Below w.heap.size w w' ∧ e = .returned (.tuple #[.int .u64 (dnN d : Int), .int .i64 (dnK d : Int), .int .i64 (dnC d : Int)]) := hC.mono fun e w' h => by
    obtain ⟨hb, h⟩ := h
    refine ⟨hb, ?_⟩
    cases d <;> exact h
  have hend : ∀ w2, Fr (fun k => k = B) w w2 → RfV w2 B s (i + dnK d) → RUintR w B s i d (.returned (.tuple #[.int .u64 (dnN d : Int), .int .i64 (dnC d : Int)])) w2 := fun w2 hf hr => by
    refine ⟨hf, ?_⟩
    cases d <;> exact ⟨rfl, hr⟩
  obtain ⟨n, hn⟩ : ∃ n, dnN d = n := ⟨_, rfl⟩
  obtain ⟨k, hk⟩ : ∃ k, dnK d = k := ⟨_, rfl⟩
  obtain ⟨c, hc⟩ : ∃ c, dnC d = c := ⟨_, rfl⟩
  rw [hn, hk, hc] at hC2
  rw [hn, hk, hc] at hend
  rw [hk] at hk2
  have hw1 : IntKind.i64.wrap ((i : Int) + (k : Int)) = (i : Int) + (k : Int) := by rw [IntKind.wrap_i64]; omega
  have HC := Lib.hid hC2
  have HE := Lib.hid hend
  have H := Lib.hid h
  clear hC hC2 hd h hend hn hk hc
  go_enter Try.func45, Try.ntmps45
  go_wp2_with (fail)
  refine HC.out.mono ?_
  rintro e w1 ⟨hB, rfl⟩
  have hH1 := H.out.belowAll hB
  have e0 := hH1.cell 0
  have e1 := hH1.cell 1
  have z1 := hH1.free 1
  simp only [List.getElem?_cons_zero, List.getElem?_cons_succ] at e0 e1
  have HF := Lib.hid (HE.out (w1.setCell ⟨B, 1, none⟩ (.int .i64 ((i : Int) + (k : Int)))) (Fr.setCell (F := fun k => k = B) (p := ⟨B, 1, none⟩) (Fr.of_below hB _) (fun _ => rfl) _) (by
    have := hH1.put 1 (.int .i64 ((i : Int) + (k : Int)))
    show Holds _ _ _ [.string s, .int .i64 ((i + k : Nat) : Int)]
    simpa using this))
  clear hB HC hH1 H HE
  go_wp2
  go_ret2
  exact HF.out
set_option maxHeartbeats 1000000 in
set_option maxRecDepth 100000 in
theorem refNumbers {w : World} {s : ByteArray} {m : Nat} (hs : s.size ≤ 1048576) (hm : m ≤ 1000) : Calls Try.prog 34 #[.string s, .int .i64 (m : Int)] w (NumsPost (nums 1099511627776 m s.data.toList) w) := by
  obtain ⟨i0, z0, hi0, hz0, hz1, hz2, hz3⟩ := info_of info_int
  obtain ⟨r, hr⟩ : ∃ r, nums 1099511627776 m s.data.toList = r := ⟨_, rfl⟩
  rw [hr]
  have HR := Lib.hid hr
  clear hr
  go_enter Try.func34, Try.ntmps34
  go_wp2
  obtain ⟨w1, hw1⟩ : ∃ W, W = w.alloc (.cells #[.string s, .int .i64 0] 108) := ⟨_, rfl⟩
  have hB1 : Below w.heap.size w w1 := by rw [hw1]; exact (Below.refl _ _).alloc (Nat.le_refl _) _
  have hV1 : RfV w1 w.heap.size s 0 := by rw [hw1]; exact Holds.new w 108 #[.string s, .int .i64 0]
  have HB1 := Lib.hid hB1
  have HV1 := Lib.hid hV1
  rw [← hw1]
  clear hw1 hB1 hV1
  go_loopw [7, 8] (fun y x wr => ∃ (k i : Nat) (acc : List Nat), x = .int .i64 (k : Int) ∧ k ≤ m ∧ acc.length = k ∧ i ≤ s.size ∧ Hid (numsOf 1099511627776 acc (nums 1099511627776 (m - k) (s.data.toList.drop i)) = r) ∧ Hid (RfV wr w.heap.size s i) ∧ Hid (wr.ownsRow w.heap.size 3 1 y acc.length (acc.map natV)) ∧ Hid (Below w.heap.size w wr)) (fun _ x _ => m - (intOf x).toNat)
  case atStart => exact ⟨0, 0, [], rfl, Nat.zero_le _, rfl, Nat.zero_le _, by show numsOf _ _ _ = r; rw [← HR.out]; simp [numsOf], HV1.out, World.ownsRow_nil _ _ _ _, HB1.out⟩
  case round =>
    obtain ⟨k, i, acc, hx, hk, hal, hi, HX, HV, HO, HB⟩ := hrel
    subst hx
    obtain ⟨ya, yc, rfl, _, _⟩ := owns_form HO.out
    have HAL := Lib.hid hal
    by_cases hkm : k < m
    · have hk2 : (k : Int) < (m : Int) := by omega
      have hwk1 : IntKind.i64.wrap ((k : Int) + 1) = (k : Int) + 1 := by rw [IntKind.wrap_i64]; omega
      obtain ⟨f, hf⟩ : ∃ f, m - k = f + 1 := ⟨m - k - 1, by omega⟩
      have hX := HX.out
      rw [hf, nums] at hX
      have hC := refUint HV.out hi hs
      cases hd : dec (s.data.toList.drop i) with
      | cut =>
        rw [hd] at hX hC
        have HC := Lib.hid hC
        have HF : Hid (∀ w2, Below w.heap.size w w2 → NumsPost r w (.returned (.tuple #[.slice none 0 0, .bool false])) w2) := fun w2 hb => by rw [← hX]; exact ⟨hb, rfl⟩
        clear hX hC hd hf HX HV hal
        go_wp2_with (fail)
        refine HC.out.mono ?_
        rintro e w2 ⟨hF, rfl, hV⟩
        have hB2 : Below w.heap.size w w2 := HB.out.trans (hF.to_below HB.out.size fun k hk e => by omega)
        have HF2 := Lib.hid (HF.out w2 hB2)
        clear hF hV HF HC hB2
        go_wp2
        go_ret2
        exact HF2.out
      | form =>
        rw [hd] at hX hC
        have HC := Lib.hid hC
        have HF : Hid (∀ w2, Below w.heap.size w w2 → NumsPost r w (.returned (.tuple #[.slice none 0 0, .bool false])) w2) := fun w2 hb => by rw [← hX]; exact ⟨hb, rfl⟩
        clear hX hC hd hf HX HV hal
        go_wp2_with (fail)
        refine HC.out.mono ?_
        rintro e w2 ⟨hF, rfl, hV⟩
        have hB2 : Below w.heap.size w w2 := HB.out.trans (hF.to_below HB.out.size fun k hk e => by omega)
        have HF2 := Lib.hid (HF.out w2 hB2)
        clear hF hV HF HC hB2
        go_wp2
        go_ret2
        exact HF2.out
      | ok n j =>
        have hdp := dec_pos hd
        rw [List.length_drop] at hdp
        have hij : i + j ≤ s.size := by have : s.data.toList.length = s.size := by simp
                                        omega
        rw [hd] at hX hC
        simp only at hX
        have HC := Lib.hid hC
        by_cases hbn : 1099511627776 < n
        · rw [if_pos hbn] at hX
          have d1 : decide ((1099511627776 : Int) < (n : Int)) = true := decide_eq_true (by omega)
          have HF : Hid (∀ w2, Below w.heap.size w w2 → NumsPost r w (.returned (.tuple #[.slice none 0 0, .bool false])) w2) := fun w2 hb => by rw [← hX]; exact ⟨hb, rfl⟩
          clear hX hC hd hf HX HV hal hdp hij hbn
          go_wp2_with (fail)
          refine HC.out.mono ?_
          rintro e w2 ⟨hF, rfl, hV⟩
          have hB2 : Below w.heap.size w w2 := HB.out.trans (hF.to_below HB.out.size fun k hk e => by omega)
          have HF2 := Lib.hid (HF.out w2 hB2)
          clear hF hV HF HC hB2
          go_wp2
          go_ret2
          exact HF2.out
        · rw [if_neg hbn] at hX
          have d1 : decide ((1099511627776 : Int) < (n : Int)) = false := decide_eq_false (by omega)
          have hcv : IntKind.i64.wrap (n : Int) = (n : Int) := by rw [IntKind.wrap_i64]; omega
          have hX2 : numsOf 1099511627776 (acc ++ [n]) (nums 1099511627776 (m - (k + 1)) (s.data.toList.drop (i + j))) = r := by
            rw [← hX, show m - (k + 1) = f by omega, ← List.drop_drop]
            unfold numsOf
            cases nums 1099511627776 f (List.drop j (List.drop i s.data.toList)) with
            | none => rfl
            | some p => simp
          have HX2 := Lib.hid hX2
          have HV3 := Lib.hid HV.out
          clear hX hC hd hf HX HV hdp hbn hX2 hal
          go_wp2_with (fail)
          refine HC.out.mono ?_
          rintro e w2 ⟨hF, rfl, hV⟩
          have hB2 : Below w.heap.size w w2 := HB.out.trans (hF.to_below HB.out.size fun k hk e => by omega)
          have hO2 : w2.ownsRow w.heap.size 3 1 (.slice ya acc.length yc) acc.length (acc.map natV) := Fr.owns hF HO.out fun g hg e => by
            subst e
            exact owns_ne_holds (Fr.owns (F := fun _ => False) (Fr.refl _ _) HO.out (fun _ _ h => h)) (by have := HV3.out; exact this) (by decide) hg
          have HB2 := Lib.hid hB2
          have HO2 := Lib.hid hO2
          have HV2 := Lib.hid hV
          clear hF hV HC hB2 hO2
          go_wp2_with (at_builtin; refine wpList_append_own_at _ rfl (.tmp 30) (.tmp 33) _ rfl w.heap.size 3 i0 z0 1 8 Try.underlying44 hi0 hz0 hz1 hz2 hz3 (by omega) (.slice ya acc.length yc) acc.length (acc.map natV) rfl (HO2.out.alloc _) ⟨w2.heap.size, 0, none⟩ 1 1 [.int .i64 (n : Int)] rfl rfl ?c1 ?c2 ?c3 ?c4 ?c5 ?_)
          case c1 => exact cell_one_new _ _ _
          case c2 => simp [Value.oneCell']
          case c3 => have := HAL.out; unfold maxLen; omega
          case c4 => have := HAL.out; omega
          case c5 => have := HB2.out.size; simp; omega
          intro v' w7 hown hgrow _ _
          have hB7 := (HB2.out.alloc HB2.out.size _).grown hgrow (by have := HB2.out.size; simp; omega) fun k hk => (HO2.out.lt k hk).1
          have hown7 : w7.ownsRow w.heap.size 3 1 v' (acc ++ [n]).length ((acc ++ [n]).map natV) := by
            rw [List.length_append, List.map_append, List.length_singleton]
            exact hown
          have hV7 : RfV w7 w.heap.size s (i + j) := (HV2.out.alloc _).of_eq (hgrow.block _ (HV2.out.alloc _).lt fun e => owns_ne_holds HO2.out HV2.out (by decide) e.symm)
          have HB7 := Lib.hid hB7
          have HO7 := Lib.hid hown7
          have HV7 := Lib.hid hV7
          have hal2 : (acc ++ [n]).length = k + 1 := by rw [List.length_append, List.length_singleton, HAL.out]
          have HA7 := Lib.hid hal2
          clear hown hgrow HO HB HB2 HO2 HV2 hB7 hown7 hV7 hal2
          go_wp2
          refine ⟨⟨k + 1, i + j, acc ++ [n], by simp, by omega, HA7.out, by omega, HX2, HV7, HO7, HB7⟩, ?_⟩
          simp [intOf]
          omega
    · have hk3 : k = m := by omega
      subst hk3
      have hX := HX.out
      rw [Nat.sub_self, nums] at hX
      unfold numsOf at hX
      simp only [Option.map_some, List.append_nil] at hX
      have he : (s.data.toList.drop i).isEmpty = ((i : Int) == (s.size : Int)) := by
        rw [isEmpty_drop (by simpa using hi)]
        have : s.data.toList.length = s.size := by simp
        rw [this, Bool.eq_iff_iff]
        simp
        omega
      have HF : Hid (∀ w2, Below w.heap.size w w2 → w2.ownsRow w.heap.size 3 1 (.slice ya acc.length yc) acc.length (acc.map natV) → NumsPost r w (.returned (.tuple #[.slice ya acc.length yc, .bool ((i : Int) == (s.size : Int))])) w2) := fun w2 hb ho => by
        rw [← hX, ← he]; exact ⟨hb, _, rfl, ho⟩
      have e1 := HV.out.cell 1
      simp only [List.getElem?_cons_zero, List.getElem?_cons_succ] at e1
      clear hX HX HV he hal
      go_wp2
      go_quiet (fail)
      have HF2 := Lib.hid (HF.out (wr.drewN nq) ⟨HB.out.os, HB.out.tape, HB.out.output, HB.out.size, HB.out.block⟩ HO.out)
      clear HF
      go_wp2
      go_ret2
      exact HF2.out
end Go.Proofs.Ytcedenoicmpjmaa
