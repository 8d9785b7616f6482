/- The walk of sextantlaw02.LexRemarks. -/
import Derived.Test.YtndcbbhfhcjadaaDoorWTokens
import Derived.Test.YtndcbbhfhcjadaaDoorPLaw
namespace Go.Proofs.YtndcbbhfhcjadaaDoor
open Go.RowKit
set_option linter.unusedVariables false

theorem noClose_of : ∀ l : Bs, (∀ (j : Nat) (h : j + 1 < l.length), ¬ (l[j] = 42 ∧ l[j + 1] = 47)) → noClose l = true
  | [], _ => rfl
  | [c], _ => rfl
  | c :: d :: r, h => by
    rw [noClose, Bool.and_eq_true]
    constructor
    · have h0 := h 0 (by simp)
      rw [List.getElem_cons_zero, List.getElem_cons_succ, List.getElem_cons_zero] at h0
      cases hc : (c == 42 && d == 47) with
      | false => rfl
      | true =>
        rw [Bool.and_eq_true] at hc
        exact absurd ⟨eq_of_beq hc.1, eq_of_beq hc.2⟩ h0
    · exact noClose_of (d :: r) fun j hj => by
        have := h (j + 1) (by simp at hj ⊢; omega)
        simpa using this
theorem data_at {b : ByteArray} {i : Nat} (h : i < b.size) (h' : i < b.data.toList.length) : b.data.toList[i] = b[i] := by
  simp [ByteArray.getElem_eq_getElem_data]

/-- A row of words, of whosoever's. -/
def RowT (w : World) (v : Value) (ts : List Tk) : Prop := ∃ b, w.ownsRow b 33 4 v ts.length (flatT ts)
theorem RowT.below {w w' : World} {v : Value} {ts : List Tk} (h : RowT w v ts) (hb : Below w.heap.size w w') : RowT w' v ts := by
  obtain ⟨b, h⟩ := h
  exact ⟨b, (Fr.of_below hb (fun _ => False)).owns h (fun _ _ h => h)⟩
theorem RowT.alloc {w : World} {v : Value} {ts : List Tk} (h : RowT w v ts) (o : Obj) : RowT (w.alloc o) v ts := by
  obtain ⟨b, h⟩ := h
  exact ⟨b, h.alloc o⟩
theorem RowT.drewN {w : World} {v : Value} {ts : List Tk} (h : RowT w v ts) (n : Nat) : RowT (w.drewN n) v ts := h
theorem RowT.form {w : World} {v : Value} {ts : List Tk} (h : RowT w v ts) : ∃ a cap, v = .slice a ts.length cap ∧ ts.length ≤ cap ∧ cap ≤ 9223372036854775807 := by
  obtain ⟨b, h⟩ := h
  exact owns_form h
theorem RowT.at {w : World} {a : Option Addr} {n cap : Nat} {ts : List Tk} (h : RowT w (.slice a n cap) ts) {k : Nat} (hk : k < ts.length) :
    ∃ g, a = some ⟨g, 0, none⟩ ∧ g < w.heap.size ∧ w.cell? ⟨g, k * 4, none⟩ = some (.int .i64 (ts[k].kind : Int)) ∧ w.cell? ⟨g, k * 4 + 1, none⟩ = some (.string ⟨ts[k].text.toArray⟩) ∧ w.cell? ⟨g, k * 4 + 2, none⟩ = some (.int .i64 (ts[k].num : Int)) ∧ w.cell? ⟨g, k * 4 + 3, none⟩ = some (.int .i64 (ts[k].at_ : Int)) := by
  obtain ⟨b, h⟩ := h
  obtain ⟨g, c, hv, -, hgl, -, -, q, -⟩ := owns_some h (by omega)
  injection hv with hv _ _
  obtain ⟨f0, f1, f2, f3⟩ := flatT_at ts k hk
  exact ⟨g, hv, hgl, (q _ (by omega)).trans f0, (q _ (by omega)).trans f1, (q _ (by omega)).trans f2, (q _ (by omega)).trans f3⟩

set_option maxHeartbeats 8000000 in
set_option maxRecDepth 1000000 in
theorem lawRemarks (a b : ByteArray) (ha : a.size ≤ 1048576) (hb : b.size ≤ 1048576) (w : World) (hw : Sound w) :
    Calls Tryd.prog 8 #[.string a, .string b] w fun e w' => e = .returned (.bool true) ∧ Below w.heap.size w w' := by
  go_enter Tryd.func8, Tryd.ntmps8
  go_wp2_with (fail)
  refine (hw.awake).mono ?_
  rintro e w1 ⟨rfl, hb1⟩
  go_wp2
  go_loopw [6] (fun x wr => ∃ i : Nat, x = .int .i64 (i : Int) ∧ i ≤ b.size ∧ Hid (∀ (j : Nat), j < i → ∀ h : j + 1 < b.size, ¬ (b[j] = 42 ∧ b[j + 1] = 47)) ∧ wr = w1) (fun x _ => (b.size + 10 - intOf x).toNat)
  case atStart => exact ⟨0, rfl, Nat.zero_le _, (fun j h => by omega), rfl⟩
  case round =>
    obtain ⟨i, rfl, hi, HI, rfl⟩ := hrel
    by_cases hl : i + 1 < b.size
    · have hl' : (i : Int) + 1 < (b.size : Int) := by omega
      have hp2 := piece2 hl
      go_wp2
      · go_ret
        exact ⟨rfl, hb1⟩
      · rename_i hne
        refine ⟨⟨i + 1, rfl, by omega, (fun j hj h => ?_), trivial⟩, by simp [intOf]; omega⟩
        by_cases hji : j = i
        · subst hji
          rintro ⟨h1, h2⟩
          rw [h1, h2] at hne
          rcases hne with hne | hne <;> cases hne
        · exact HI.out j (by omega) h
    · have hl' : decide ((i : Int) + 1 < (b.size : Int)) = false := by simp; omega
      have hnc : noClose b.data.toList = true := noClose_of _ fun j h => by
        have hlen : b.data.toList.length = b.size := by simp
        have h2 : j + 1 < b.size := by omega
        rw [data_at (by omega), data_at h2]
        exact HI.out j (by omega) h2
      clear HI
      have HNC := Lib.hid hnc
      clear hnc
      by_cases hbig : 65536 < a.size + b.size + 6
      · have hbig' : (65536 : Int) < (a.size : Int) + (b.size : Int) + 6 := by omega
        by_cases hz : b.size = 0
        · have hz' : decide ((0 : Int) < (b.size : Int)) = false := decide_eq_false (by omega)
          have hb0 : b.size = 0 := by omega
          clear hz
          go_wp2
          go_ret
          exact ⟨rfl, hb1⟩
        · obtain ⟨n, hn⟩ : ∃ n, b.size = n + 1 := ⟨b.size - 1, by omega⟩
          have hz' : (0 : Int) < (b.size : Int) := by omega
          have hl1 : (b.size : Int) - 1 = (n : Int) := by omega
          have hnb : n < b.size := by omega
          clear hn
          by_cases h42 : ((b[n].toNat : Int) == 42) = true
          · go_wp2
            go_ret
            exact ⟨rfl, hb1⟩
          · have h42' := eq_false_of_ne_true h42
            clear h42
            go_wp2
            go_ret
            exact ⟨rfl, hb1⟩
      · have hbig' : decide ((65536 : Int) < (a.size : Int) + (b.size : Int) + 6) = false := decide_eq_false (by omega)
        have hsum : a.size + b.size + 6 ≤ 65536 := by omega
        have hs1 : (a ++ (⟨#[32]⟩ : ByteArray)).size = a.size + 1 := by rw [ByteArray.size_append]; rfl
        have hs2 : (((((⟨#[47, 42]⟩ : ByteArray) ++ b) ++ (⟨#[32, 42, 47]⟩ : ByteArray)) ++ a) ++ (⟨#[32]⟩ : ByteArray)).size = a.size + b.size + 6 := by
          simp only [ByteArray.size_append]
          show 2 + b.size + 3 + a.size + 1 = _
          omega
        have T1 : Hid (tokensOf (a ++ (⟨#[32]⟩ : ByteArray)) = tk 0 (a.data.toList ++ [32])) := by
          show _ = _
          unfold tokensOf
          rw [if_neg (by omega), rest_zero]
          simp
        have T2 : Hid (tokensOf (((((⟨#[47, 42]⟩ : ByteArray) ++ b) ++ (⟨#[32, 42, 47]⟩ : ByteArray)) ++ a) ++ (⟨#[32]⟩ : ByteArray)) = shR (b.size + 5) (tk 0 (a.data.toList ++ [32]))) := by
          show _ = _
          unfold tokensOf
          rw [if_neg (by omega), rest_zero]
          have hd : (((((⟨#[47, 42]⟩ : ByteArray) ++ b) ++ (⟨#[32, 42, 47]⟩ : ByteArray)) ++ a) ++ (⟨#[32]⟩ : ByteArray)).data.toList = 47 :: 42 :: (b.data.toList ++ 32 :: 42 :: 47 :: (a.data.toList ++ [32])) := by simp
          rw [hd, tk_remarks HNC.out]
          simp
        have hal : (a.data.toList ++ [32]).length = a.size + 1 := by simp
        obtain ⟨R, hR⟩ : ∃ R, tk 0 (a.data.toList ++ [32]) = R := ⟨_, rfl⟩
        have hRb : ∀ x y, R = .bad x y → y ≤ a.size + 1 := by
          intro x y h
          have := tk_bad_at (hR.trans h)
          omega
        have hRp : ∀ ts, R = .ok ts → ∀ t ∈ ts, t.at_ ≤ a.size + 1 := by
          intro ts h t ht
          have := tk_place (hR.trans h) t ht
          omega
        rw [hR] at T1 T2
        clear hR hal hs1 hs2 HNC
        by_cases hz : b.size = 0
        · have hz' : decide ((0 : Int) < (b.size : Int)) = false := decide_eq_false (by omega)
          have hb0 : b.size = 0 := by omega
          have hz2 : ¬ 0 < b.size := by omega
          have HB0 := Lib.hid hb0
          clear hz hb0
          go_wp2_with (fail)
          refine ((hw.below hb1).tokens _).mono ?_
          rintro e w2 ⟨hb2, hp⟩
          rw [T1.out] at hp
          have hbb2 := hb1.trans (hb2.mono hb1.size)
          cases R with
          | bad c x =>
            have hxb := hRb c x rfl
            obtain ⟨hc, rfl⟩ := hp
            have hbb3 := hbb2.alloc hbb2.size (.cells #[.int .i64 (c : Nat), .int .i64 (x : Nat)] 26)
            have hw3 := (hw.below hbb3)
            clear hRb hRp
            unfold mish
            go_wp2_with (fail)
            refine (hw3.tokens _).mono ?_
            rintro e w3 ⟨hb3, hp⟩
            rw [T2.out] at hp
            obtain ⟨_, rfl⟩ := hp
            have hbb3' := hbb3.trans (hb3.mono hbb3.size)
            obtain ⟨z, hz⟩ : ∃ z, b.size + 5 + x = z := ⟨_, rfl⟩
            rw [hz]
            have hbb4 := hbb3'.alloc hbb3'.size (.cells #[.int .i64 (c : Nat), .int .i64 (z : Nat)] 26)
            have hk := ((Holds.new w2 26 #[.int .i64 (c : Nat), .int .i64 (x : Nat)]).belowAll hb3).alloc (.cells #[.int .i64 (c : Nat), .int .i64 (z : Nat)] 26)
            have d0 := hk.cell 0
            have d1 := hk.cell 1
            simp at d0 d1
            have hc' : ((c : Int) != 0) = true := by simp; omega
            have hzz : ((z : Int) == (x : Int) + (b.size : Int) + 5) = true := by simp; omega
            have hxb' : (x : Int) ≤ 70000 := by omega
            clear hz T1 T2
            unfold mish
            go_wp2
            go_ret
            exact ⟨rfl, hbb4⟩
          | ok ts =>
            obtain ⟨v1, rfl, ho1⟩ := hp
            have r1 : RowT w2 v1 ts := ⟨_, ho1⟩
            have hRp := hRp ts rfl
            clear ho1 hRb
            obtain ⟨a1, cap1, rfl, hc1, hm1⟩ := r1.form
            have hbb3 := hbb2.alloc hbb2.size (.cells #[.int .i64 0, .int .i64 0] 26)
            have hw3 := (hw.below hbb3)
            have r1' := r1.alloc (.cells #[.int .i64 0, .int .i64 0] 26)
            unfold mish
            go_wp2_with (fail)
            refine (hw3.tokens _).mono ?_
            rintro e w3 ⟨hb3, hp⟩
            rw [T2.out] at hp
            obtain ⟨v2, rfl, ho2⟩ := hp
            have r2 : RowT w3 v2 (ts.map (shT (b.size + 5))) := ⟨_, ho2⟩
            clear ho2
            obtain ⟨a2, cap2, rfl, hc2, hm2⟩ := r2.form
            have hbb3' := hbb3.trans (hb3.mono hbb3.size)
            have hbb4 := hbb3'.alloc hbb3'.size (.cells #[.int .i64 0, .int .i64 0] 26)
            have h1 := (r1'.below hb3).alloc (.cells #[.int .i64 0, .int .i64 0] 26)
            have h2 := r2.alloc (.cells #[.int .i64 0, .int .i64 0] 26)
            have hkA := ((Holds.new w2 26 #[.int .i64 0, .int .i64 0]).belowAll hb3).alloc (.cells #[.int .i64 0, .int .i64 0] 26)
            have d0 := hkA.cell 0
            have d1 := hkA.cell 1
            simp at d0 d1
            have z0 : True := trivial
            have z1 : True := trivial
            obtain ⟨n, hn⟩ : ∃ n, ts.length = n := ⟨_, rfl⟩
            rw [hn] at h1 hc1 ⊢
            rw [List.length_map, hn] at h2 hc2
            rw [show (ts.map (shT (b.size + 5))).length = n by rw [List.length_map, hn]]
            have HN := Lib.hid hn
            clear hn r1 r1' r2
            unfold mish
            clear T1 T2
            go_wp2
            go_loopw [11] (fun x wr => ∃ k : Nat, x = .int .i64 (k : Int) ∧ k ≤ n ∧ RowT wr (.slice a1 n cap1) ts ∧ RowT wr (.slice a2 n cap2) (ts.map (shT (b.size + 5))) ∧ Below w.heap.size w wr) (fun x _ => (n + 10 - intOf x).toNat)
            case atStart => exact ⟨0, rfl, Nat.zero_le _, h1, h2, hbb4⟩
            case round =>
              clear h1 h2 hbb4 d0 d1 z0 z1
              obtain ⟨k, rfl, hk, h1, h2, hB⟩ := hrel
              by_cases hkn : k < n
              · have hn := HN.out
                obtain ⟨g1, rfl, hgl1, e0, e1, e2, e3⟩ := h1.at (k := k) (by omega)
                obtain ⟨g2, rfl, hgl2, f0, f1, f2, f3⟩ := h2.at (k := k) (by rw [List.length_map]; omega)
                have hpl := hRp (ts[k]'(by omega)) (List.getElem_mem _)
                rw [List.getElem_map] at f0 f1 f2 f3
                generalize ts[k]'(by omega) = y at e0 e1 e2 e3 f0 f1 f2 f3 hpl
                obtain ⟨z, hz⟩ : ∃ z, z = b.size + 5 + y.at_ := ⟨_, rfl⟩
                change _ = some (Value.int .i64 ((b.size + 5 + y.at_ : Nat) : Int)) at f3
                change _ = some (Value.int .i64 (y.kind : Int)) at f0
                change _ = some (Value.string ⟨y.text.toArray⟩) at f1
                change _ = some (Value.int .i64 (y.num : Int)) at f2
                rw [← hz] at f3
                have hzz : ((z : Int) != (y.at_ : Int) + (b.size : Int) + 5) = false := by
                  have : (z : Int) = (y.at_ : Int) + (b.size : Int) + 5 := by omega
                  simp [this]
                have hyb : (y.at_ : Int) ≤ 70000 := by omega
                have hkl : (k : Int) < (n : Int) := by omega
                clear hn hz hpl
                have hRp' := Lib.hid hRp
                clear hRp
                go_wp2
                go_quiet (fail)
                go_wp2
                exact ⟨⟨k + 1, rfl, by omega, h1.drewN nq, h2.drewN nq, below_drewN' hB nq⟩, by simp [intOf]; omega⟩
              · have hl2 : decide ((k : Int) < (n : Int)) = false := decide_eq_false (by omega)
                go_wp2
                go_ret
                exact ⟨rfl, hB⟩
        · obtain ⟨q, hq⟩ : ∃ n, b.size = n + 1 := ⟨b.size - 1, by omega⟩
          have hz' : (0 : Int) < (b.size : Int) := by omega
          have hl1 : (b.size : Int) - 1 = (q : Int) := by omega
          have hnb : q < b.size := by omega
          clear hq
          by_cases h42 : ((b[q].toNat : Int) == 42) = true
          · go_wp2
            go_ret
            exact ⟨rfl, hb1⟩
          · have h42' := eq_false_of_ne_true h42
            clear h42
            go_wp2_with (fail)
            refine ((hw.below hb1).tokens _).mono ?_
            rintro e w2 ⟨hb2, hp⟩
            rw [T1.out] at hp
            have hbb2 := hb1.trans (hb2.mono hb1.size)
            cases R with
            | bad c x =>
              have hxb := hRb c x rfl
              obtain ⟨hc, rfl⟩ := hp
              have hbb3 := hbb2.alloc hbb2.size (.cells #[.int .i64 (c : Nat), .int .i64 (x : Nat)] 26)
              have hw3 := (hw.below hbb3)
              clear hRb hRp
              unfold mish
              go_wp2_with (fail)
              refine (hw3.tokens _).mono ?_
              rintro e w3 ⟨hb3, hp⟩
              rw [T2.out] at hp
              obtain ⟨_, rfl⟩ := hp
              have hbb3' := hbb3.trans (hb3.mono hbb3.size)
              obtain ⟨z, hz⟩ : ∃ z, b.size + 5 + x = z := ⟨_, rfl⟩
              rw [hz]
              have hbb4 := hbb3'.alloc hbb3'.size (.cells #[.int .i64 (c : Nat), .int .i64 (z : Nat)] 26)
              have hk := ((Holds.new w2 26 #[.int .i64 (c : Nat), .int .i64 (x : Nat)]).belowAll hb3).alloc (.cells #[.int .i64 (c : Nat), .int .i64 (z : Nat)] 26)
              have d0 := hk.cell 0
              have d1 := hk.cell 1
              simp at d0 d1
              have hc' : ((c : Int) != 0) = true := by simp; omega
              have hzz : ((z : Int) == (x : Int) + (b.size : Int) + 5) = true := by simp; omega
              have hxb' : (x : Int) ≤ 70000 := by omega
              clear hz T1 T2
              unfold mish
              go_wp2
              go_ret
              exact ⟨rfl, hbb4⟩
            | ok ts =>
              obtain ⟨v1, rfl, ho1⟩ := hp
              have r1 : RowT w2 v1 ts := ⟨_, ho1⟩
              have hRp := hRp ts rfl
              clear ho1 hRb
              obtain ⟨a1, cap1, rfl, hc1, hm1⟩ := r1.form
              have hbb3 := hbb2.alloc hbb2.size (.cells #[.int .i64 0, .int .i64 0] 26)
              have hw3 := (hw.below hbb3)
              have r1' := r1.alloc (.cells #[.int .i64 0, .int .i64 0] 26)
              unfold mish
              go_wp2_with (fail)
              refine (hw3.tokens _).mono ?_
              rintro e w3 ⟨hb3, hp⟩
              rw [T2.out] at hp
              obtain ⟨v2, rfl, ho2⟩ := hp
              have r2 : RowT w3 v2 (ts.map (shT (b.size + 5))) := ⟨_, ho2⟩
              clear ho2
              obtain ⟨a2, cap2, rfl, hc2, hm2⟩ := r2.form
              have hbb3' := hbb3.trans (hb3.mono hbb3.size)
              have hbb4 := hbb3'.alloc hbb3'.size (.cells #[.int .i64 0, .int .i64 0] 26)
              have h1 := (r1'.below hb3).alloc (.cells #[.int .i64 0, .int .i64 0] 26)
              have h2 := r2.alloc (.cells #[.int .i64 0, .int .i64 0] 26)
              have hkA := ((Holds.new w2 26 #[.int .i64 0, .int .i64 0]).belowAll hb3).alloc (.cells #[.int .i64 0, .int .i64 0] 26)
              have d0 := hkA.cell 0
              have d1 := hkA.cell 1
              simp at d0 d1
              have z0 : True := trivial
              have z1 : True := trivial
              obtain ⟨n, hn⟩ : ∃ n, ts.length = n := ⟨_, rfl⟩
              rw [hn] at h1 hc1 ⊢
              rw [List.length_map, hn] at h2 hc2
              rw [show (ts.map (shT (b.size + 5))).length = n by rw [List.length_map, hn]]
              have HN := Lib.hid hn
              clear hn r1 r1' r2
              unfold mish
              clear T1 T2
              go_wp2
              go_loopw [11] (fun x wr => ∃ k : Nat, x = .int .i64 (k : Int) ∧ k ≤ n ∧ RowT wr (.slice a1 n cap1) ts ∧ RowT wr (.slice a2 n cap2) (ts.map (shT (b.size + 5))) ∧ Below w.heap.size w wr) (fun x _ => (n + 10 - intOf x).toNat)
              case atStart => exact ⟨0, rfl, Nat.zero_le _, h1, h2, hbb4⟩
              case round =>
                clear h1 h2 hbb4 d0 d1 z0 z1
                obtain ⟨k, rfl, hk, h1, h2, hB⟩ := hrel
                by_cases hkn : k < n
                · have hn := HN.out
                  obtain ⟨g1, rfl, hgl1, e0, e1, e2, e3⟩ := h1.at (k := k) (by omega)
                  obtain ⟨g2, rfl, hgl2, f0, f1, f2, f3⟩ := h2.at (k := k) (by rw [List.length_map]; omega)
                  have hpl := hRp (ts[k]'(by omega)) (List.getElem_mem _)
                  rw [List.getElem_map] at f0 f1 f2 f3
                  generalize ts[k]'(by omega) = y at e0 e1 e2 e3 f0 f1 f2 f3 hpl
                  obtain ⟨z, hz⟩ : ∃ z, z = b.size + 5 + y.at_ := ⟨_, rfl⟩
                  change _ = some (Value.int .i64 ((b.size + 5 + y.at_ : Nat) : Int)) at f3
                  change _ = some (Value.int .i64 (y.kind : Int)) at f0
                  change _ = some (Value.string ⟨y.text.toArray⟩) at f1
                  change _ = some (Value.int .i64 (y.num : Int)) at f2
                  rw [← hz] at f3
                  have hzz : ((z : Int) != (y.at_ : Int) + (b.size : Int) + 5) = false := by
                    have : (z : Int) = (y.at_ : Int) + (b.size : Int) + 5 := by omega
                    simp [this]
                  have hyb : (y.at_ : Int) ≤ 70000 := by omega
                  have hkl : (k : Int) < (n : Int) := by omega
                  clear hn hz hpl
                  have hRp' := Lib.hid hRp
                  clear hRp
                  go_wp2
                  go_quiet (fail)
                  go_wp2
                  exact ⟨⟨k + 1, rfl, by omega, h1.drewN nq, h2.drewN nq, below_drewN' hB nq⟩, by simp [intOf]; omega⟩
                · have hl2 : decide ((k : Int) < (n : Int)) = false := decide_eq_false (by omega)
                  go_wp2
                  go_ret
                  exact ⟨rfl, hB⟩
end Go.Proofs.YtndcbbhfhcjadaaDoor
