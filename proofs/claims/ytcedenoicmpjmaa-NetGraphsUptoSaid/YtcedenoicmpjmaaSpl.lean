/- The walk of the statements' spoil: every row of a graph is written into. -/
import Derived.Test.YtcedenoicmpjmaaShp
namespace Go.Proofs.Ytcedenoicmpjmaa
open Go.RowKit
set_option linter.unusedVariables false
set_option linter.unusedSimpArgs false

/-- A graph all of whose rows may be written into. -/
def SN (R : Nat → Prop) (w : World) (v : Value) : Prop := ∃ g n c cs, v = .slice (some ⟨g, 0, none⟩) n c ∧ n ≤ c ∧ n ≤ 1000000000 ∧ R g ∧ Holds w g 53 cs ∧ n * 5 ≤ cs.length ∧ ∀ i, i < n → ∃ va, cs[i * 5]? = some va ∧ SA R w va
def spoilN : List Value := [.slice none 0 0, .int .u64 66, .bool false, .bool false, .bool false]
theorem spoilN_at {cs : List Value} {i j : Nat} (h : j * 5 + 5 ≤ cs.length) (hi : i * 5 + 5 ≤ cs.length) : (cs.take (j * 5) ++ (spoilN ++ cs.drop (j * 5 + 5)))[i * 5]? = if i = j then some (.slice none 0 0) else cs[i * 5]? := by
  by_cases e : i = j
  · subst e
    rw [if_pos rfl, List.getElem?_append_right (by simp; omega), List.getElem?_append_left (by simp [spoilN]; omega)]
    rw [show i * 5 - (cs.take (i * 5)).length = 0 by simp; omega]
    rfl
  · rw [if_neg e]
    by_cases hij : i < j
    · rw [List.getElem?_append_left (by simp; omega), List.getElem?_take_of_lt (by omega)]
    · rw [List.getElem?_append_right (by simp; omega), List.getElem?_append_right (by simp [spoilN]; omega), List.getElem?_drop]
      congr 1
      simp [spoilN]
      omega
theorem SA.form {R : Nat → Prop} {w : World} {v : Value} (h : SA R w v) : ∃ a n c, v = .slice a n c ∧ n ≤ 1000000000 := by
  rcases h with rfl | ⟨g, n, c, cs, rfl, _, h, _⟩
  · exact ⟨_, _, _, rfl, by omega⟩
  · exact ⟨_, _, _, rfl, h⟩
theorem SA.at {R : Nat → Prop} {w : World} {a : Option Addr} {n c k : Nat} (h : SA R w (.slice a n c)) (hk : k < n) : ∃ g cs rs ws, a = some ⟨g, 0, none⟩ ∧ R g ∧ Holds w g 55 cs ∧ k * 6 + 6 ≤ cs.length ∧ w.cell? ⟨g, k * 6 + 3, none⟩ = some rs ∧ w.cell? ⟨g, k * 6 + 4, none⟩ = some ws ∧ SI R w rs ∧ SI R w ws := by
  rcases h with h | ⟨g, n', c', cs, h, h2, h3, h4, h5, h6, h7⟩
  · injection h with _ h _
    omega
  · injection h with e1 e2 e3
    subst e1 e2 e3
    obtain ⟨rs, ws, q1, q2, q3, q4⟩ := h7 k hk
    exact ⟨g, cs, rs, ws, rfl, h4, h5, by omega, (h5.cell _).trans q1, (h5.cell _).trans q2, q3, q4⟩
set_option maxHeartbeats 4000000 in
set_option maxRecDepth 100000 in
theorem spoilFn {R : Nat → Prop} {w : World} {v : Value} (h : SN R w v) : Calls Try.prog 12 #[.agg #[v]] w (fun e w' => NoneP e ∧ Fr R w w') := by
  obtain ⟨g, n, c, cs, rfl, hnc, hn, hR, hh, hl, hs⟩ := h
  obtain ⟨w1, hw1⟩ : ∃ W, W = w.alloc (.cells #[.slice (some ⟨g, 0, none⟩) n c] 24) := ⟨_, rfl⟩
  have hb1 : Below w.heap.size w w1 := by rw [hw1]; exact (Below.refl _ _).alloc (Nat.le_refl _) _
  have HB1 := Lib.hid hb1
  have H1 : Hid (Holds w1 w.heap.size 24 [.slice (some ⟨g, 0, none⟩) n c]) := by rw [hw1]; exact Holds.new w 24 #[.slice (some ⟨g, 0, none⟩) n c]
  have HS0 : Hid (∃ ds, Holds w1 g 53 ds ∧ ds.length = cs.length ∧ Fr R w1 w1 ∧ Holds w1 w.heap.size 24 [.slice (some ⟨g, 0, none⟩) n c] ∧ ∀ i, i < n → ∃ va, ds[i * 5]? = some va ∧ SA R w1 va) := ⟨cs, hh.belowAll hb1, rfl, Fr.refl _ _, H1.out, fun i hi => by obtain ⟨va, q1, q2⟩ := hs i hi; exact ⟨va, q1, q2.up (Keep.below hb1)⟩⟩
  have hlt : g < w.heap.size := hh.lt
  clear hh hs hb1
  go_enter Try.func12, Try.ntmps12
  go_wp2
  rw [← hw1]
  clear hw1
  obtain ⟨b1, hb1e⟩ : ∃ b, w.heap.size = b := ⟨_, rfl⟩
  have HB1E := Lib.hid hb1e
  rw [hb1e] at HS0 hlt ⊢
  clear hb1e H1
  go_loopw [2] (fun x wr => ∃ i : Nat, x = .int .i64 (i : Int) ∧ i ≤ n ∧ Hid (∃ ds, Holds wr g 53 ds ∧ ds.length = cs.length ∧ Fr R w1 wr ∧ Holds wr b1 24 [.slice (some ⟨g, 0, none⟩) n c] ∧ ∀ i, i < n → ∃ va, ds[i * 5]? = some va ∧ SA R wr va)) (fun x _ => n - (intOf x).toNat)
  case atStart => exact ⟨0, rfl, Nat.zero_le _, HS0.out⟩
  case round =>
    clear HS0
    obtain ⟨i, hx, hi, HS⟩ := hrel
    subst hx
    obtain ⟨ds, hd, hdl, hf, hbx, hall⟩ := HS.out
    have c1 := hbx.cell 0
    simp only [List.getElem?_cons_zero] at c1
    by_cases hin : i < n
    · have hi2 : (i : Int) < (n : Int) := by omega
      have hi0 : (0 : Int) ≤ (i : Int) := by omega
      have hwi : IntKind.i64.wrap (i : Int) = (i : Int) := by rw [IntKind.wrap_i64]; omega
      have hwi1 : IntKind.i64.wrap ((i : Int) + 1) = (i : Int) + 1 := by rw [IntKind.wrap_i64]; omega
      obtain ⟨va, hva, hsa⟩ := hall i hin
      have HD := Lib.hid hd
      have HDL := Lib.hid hdl
      have HF := Lib.hid hf
      have HBX := Lib.hid hbx
      have HALL := Lib.hid hall
      have HVA := Lib.hid hva
      have HSA := Lib.hid hsa
      clear hd hdl hf hbx hall hva hsa HS
      obtain ⟨pa, K, c2, rfl, hK⟩ := HSA.out.form
      go_wp2_with (fail)
      obtain ⟨wi, rfl⟩ : ∃ W, W = wr := ⟨_, rfl⟩
      go_loopw [3] (fun x wr => ∃ k : Nat, x = .int .i64 (k : Int) ∧ k ≤ K ∧ Hid (Sp R wi wr)) (fun x _ => K - (intOf x).toNat)
      case atStart => exact ⟨0, rfl, Nat.zero_le _, Sp.refl _ _⟩
      case round =>
        obtain ⟨k, hx, hk, HSP⟩ := hrel
        subst hx
        have c1 := (HSP.out.net _ _ HBX.out).cell 0
        simp only [List.getElem?_cons_zero] at c1
        have cN := ((HSP.out.node _ _ HD.out).cell (i * 5)).trans HVA.out
        by_cases hkK : k < K
        · have hk2 : (k : Int) < (K : Int) := by omega
          have hk0 : (0 : Int) ≤ (k : Int) := by omega
          have hwk : IntKind.i64.wrap (k : Int) = (k : Int) := by rw [IntKind.wrap_i64]; omega
          have hwk1 : IntKind.i64.wrap ((k : Int) + 1) = (k : Int) + 1 := by rw [IntKind.wrap_i64]; omega
          obtain ⟨ga, as1, rs, ws, rfl, hRa, ha1, hl1, q1, q2, q3, q4⟩ := (HSP.out.sa _ HSA.out).at hkK
          have HQ3 := Lib.hid q3
          clear ha1 hl1 q2 q3 q4
          go_wp2_with (fail)
          refine (writeFn HQ3.out).mono ?_
          rintro e w8 ⟨⟨v8, rfl⟩, hs8⟩
          have HS8 := Lib.hid (HSP.out.trans hs8)
          have c1 := (HS8.out.net _ _ HBX.out).cell 0
          simp only [List.getElem?_cons_zero] at c1
          have cN := ((HS8.out.node _ _ HD.out).cell (i * 5)).trans HVA.out
          obtain ⟨ga', as1, rs, ws, hga, _, ha1, hl1, q1, q2, q3, q4⟩ := (HS8.out.sa _ HSA.out).at hkK
          injection hga with hga
          injection hga with hga
          subst hga
          have HQ4 := Lib.hid q4
          clear ha1 hl1 q1 q3 q4 hs8 HSP HQ3
          go_wp2_with (fail)
          refine (writeFn HQ4.out).mono ?_
          rintro e w9 ⟨⟨v9, rfl⟩, hs9⟩
          have HS9 := Lib.hid (HS8.out.trans hs9)
          have c1 := (HS9.out.net _ _ HBX.out).cell 0
          simp only [List.getElem?_cons_zero] at c1
          have cN := ((HS9.out.node _ _ HD.out).cell (i * 5)).trans HVA.out
          obtain ⟨ga', as1, rs, ws, hga, _, ha1, hl1, q1, q2, q3, q4⟩ := (HS9.out.sa _ HSA.out).at hkK
          injection hga with hga
          injection hga with hga
          subst hga
          have HA1 := Lib.hid ha1
          have HL1 := Lib.hid hl1
          clear ha1 hl1 q1 q2 q3 q4 hs9 HS8 HQ4
          go_wp2_with (refine wpList_storeB rfl 55 _ _ rfl ga (k * 6) spoilA rfl rfl HA1.out HL1.out sz_Arc rfl ?_)
          refine Named.mk (fun w10 hw10 => ?_)
          have HS10 := Lib.hid (HS9.out.trans (Sp.arc hRa HA1.out HL1.out hw10))
          clear hw10 HA1 HL1 HS9 c1 cN
          go_wp2
          go_roundw
          case rel => exact ⟨k + 1, by simp, by omega, HS10.out⟩
          case measure => (simp [intOf]) <;> omega
        · have hk2 : ¬ (k : Int) < (K : Int) := by omega
          have HNH := Lib.hid (HSP.out.node _ _ HD.out)
          have hid5 : i * 5 + 5 ≤ ds.length := by have := HDL.out; omega
          go_wp2_with (refine wpList_storeB rfl 53 _ _ rfl g (i * 5) spoilN rfl rfl HNH.out hid5 sz_Node rfl ?_)
          refine Named.mk (fun w10 hw10 => ?_)
          have hf10 : Fr (fun q => q = g) wr w10 := by rw [hw10]; exact Fr.setRX g spoilN (i * 5) wr
          have HS10 : Hid (∃ ds, Holds w10 g 53 ds ∧ ds.length = cs.length ∧ Fr R w1 w10 ∧ Holds w10 b1 24 [.slice (some ⟨g, 0, none⟩) n c] ∧ ∀ i, i < n → ∃ va, ds[i * 5]? = some va ∧ SA R w10 va) := by
            refine ⟨_, HNH.out.stored hw10 hid5, ?_, (HF.out.trans HSP.out.fr fun _ _ h => h).trans hf10 fun q _ hq => by rw [hq]; exact hR, hf10.holds (HSP.out.net _ _ HBX.out) (by omega), fun j hj => ?_⟩
            · have := HDL.out
              simp [spoilN]
              omega
            · rw [show spoilN.length = 5 from rfl, spoilN_at hid5 (by have := HDL.out; omega)]
              by_cases e : j = i
              · rw [if_pos e]
                exact ⟨_, rfl, .inl rfl⟩
              · rw [if_neg e]
                obtain ⟨vb, h1, h2⟩ := HALL.out j hj
                refine ⟨vb, h1, ?_⟩
                have h3 := HSP.out.sa _ h2
                have ht : ∀ {g' : Nat} {t : TypeId} {es : List Value}, t ≠ 53 → Holds wr g' t es → Holds w10 g' t es := fun hne hh => hf10.holds hh (hh.ne_of_type HNH.out hne)
                have hsi : ∀ v, SI R wr v → SI R w10 v := fun v hv => hv.imp id fun ⟨g1, n, c, ds, h1, h2, h3, h4, h5, h6⟩ => ⟨g1, n, c, ds, h1, h2, h3, h4, ht (by decide) h5, h6⟩
                exact h3.imp id fun ⟨g1, n, c, es, h1, h2, h2', h3, h4, h5, h6⟩ => ⟨g1, n, c, es, h1, h2, h2', h3, ht (by decide) h4, h5, fun k hk => by
                  obtain ⟨rs, ws, q1, q2, q3, q4⟩ := h6 k hk
                  exact ⟨rs, ws, q1, q2, hsi _ q3, hsi _ q4⟩⟩
          clear hw10 hf10 HNH
          go_wp2
          go_roundw
          case rel => exact ⟨i + 1, by simp, by omega, HS10.out⟩
          case measure => (simp [intOf]) <;> omega
    · have hi2 : ¬ (i : Int) < (n : Int) := by omega
      have HF : Hid (Fr R w wr) := by
        have h3 := (Fr.of_below HB1.out R).trans hf fun _ _ h => h
        exact h3
      clear hf hall hd hbx HS
      go_wp2
      refine bodyPost_end (results_none rfl _ _ _) rfl ?_
      exact ⟨⟨_, rfl⟩, HF.out⟩
end Go.Proofs.Ytcedenoicmpjmaa
