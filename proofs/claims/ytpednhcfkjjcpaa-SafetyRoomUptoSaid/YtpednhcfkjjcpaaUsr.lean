/- The walk of the law SafetyRoom. (printed by mkusr.py) -/
import Derived.Test.YtpednhcfkjjcpaaMg14
import Derived.Test.YtpednhcfkjjcpaaUmo
import Derived.Test.YtpednhcfkjjcpaaRhg
import Derived.Test.YtpednhcfkjjcpaaGxs
namespace Go.Proofs.Ytpednhcfkjjcpaa.G
open Go.RowKit Go.Maps
set_option linter.unusedVariables false
set_option linter.unusedSimpArgs false

theorem walk_small {S : Sys} (hS : SmallS S) {s e : ByteArray} {p : List PMove} (h : Walk S s p e) (hs : Rch S s) : Rch S e ∧ ∀ m ∈ p, m.reads.length ≤ 2000000 ∧ m.writes.length ≤ 2000000 := by
  induction h with
  | nil => exact ⟨hs, fun m hm => by cases hm⟩
  | snoc h1 h2 h3 ih =>
    obtain ⟨q1, q2⟩ := ih
    refine ⟨.step q1 h2 h3, fun m hm => ?_⟩
    rcases List.mem_append.1 hm with hm | hm
    · exact q2 m hm
    · rw [List.mem_singleton] at hm
      subst hm
      exact hS.reads _ (rch_small hS q1) _ h2
theorem path_small {S : Sys} {o : POpt} {r : PFound} (hS : SmallS S) (h : FoundOk S o r) : ∀ m ∈ r.path, m.reads.length ≤ 2000000 ∧ m.writes.length ≤ 2000000 := by
  rcases h with ⟨_, _, ⟨_, _, e, hw, _⟩ | ⟨p, m, e, hp, hw, hm, _, _⟩⟩ | ⟨_, _, hp, _⟩ | ⟨_, hp, _⟩
  · exact (walk_small hS hw .beg).2
  · obtain ⟨q1, q2⟩ := walk_small hS hw .beg
    rw [hp]
    intro u hu
    rcases List.mem_append.1 hu with hu | hu
    · exact q2 u hu
    · rw [List.mem_singleton] at hu
      subst hu
      exact hS.reads _ (rch_small hS q1) _ hm
  · rw [hp]; intro u hu; cases hu
  · rw [hp]; intro u hu; cases hu
theorem path_len {S : Sys} {o : POpt} {r : PFound} {N : Nat} (h : FoundOk S o r) (hN : o.depth ≤ (N : Int)) : r.path.length ≤ N := by
  rcases h with ⟨_, h, _⟩ | ⟨_, _, hp, _⟩ | ⟨_, hp, _⟩
  · omega
  · rw [hp]; exact Nat.zero_le _
  · rw [hp]; exact Nat.zero_le _
theorem totB_le {l : List ByteArray} (h : ∀ s ∈ l, s.size ≤ 1048576) : totB l ≤ l.length * 1048576 := by
  unfold totB
  induction l with
  | nil => simp
  | cons s l ih =>
    have h1 := h s List.mem_cons_self
    have h2 := ih fun t ht => h t (List.mem_cons_of_mem _ ht)
    simp only [List.map_cons, List.sum_cons, List.length_cons]
    omega
/-- A box for what is asked. -/
theorem search_new {w3 w4 : World} {cs : List Value} (hl : cs.length = 7) (h : w4 = Go.Proofs.Ytpednhcfkjjcpaa.setR (w3.alloc (.cells #[.int .i64 0, .int .i64 0, .int .i64 0, .bool false, .bool false, .bool false, .int .u64 0] 27)) w3.heap.size 0 cs) : Below w3.heap.size w3 w4 ∧ Holds w4 w3.heap.size 27 cs := by
  have h0 : Holds (w3.alloc (.cells #[.int .i64 0, .int .i64 0, .int .i64 0, .bool false, .bool false, .bool false, .int .u64 0] 27)) w3.heap.size 27 [.int .i64 0, .int .i64 0, .int .i64 0, .bool false, .bool false, .bool false, .int .u64 0] := Holds.new _ _ _
  have h1 := h0.stored h (by rw [hl]; decide)
  have hb : Below w3.heap.size w3 (w3.alloc (.cells #[.int .i64 0, .int .i64 0, .int .i64 0, .bool false, .bool false, .bool false, .int .u64 0] 27)) := (Below.refl _ _).alloc (Nat.le_refl _) _
  refine ⟨?_, ?_⟩
  · have hf : Fr (fun q => q = w3.heap.size) (w3.alloc (.cells #[.int .i64 0, .int .i64 0, .int .i64 0, .bool false, .bool false, .bool false, .int .u64 0] 27)) w4 := by rw [h]; exact Fr.setRX _ _ 0 _
    exact hb.trans (hf.to_below (by simp) fun q hq e => by have e : q = w3.heap.size := e; omega)
  · rw [hl] at h1
    simpa using h1
theorem exF_len {S : Sys} (hS : SmallS S) {most : Nat} (h1 : 1 ≤ most) {st : List ByteArray} {g : PNet} (h : exF S most 20001 0 0 [S.beg] = some (st, g)) : st.length ≤ most :=
  (exF_small hS 20001 0 0 (by refine ⟨by simp, by simpa using hS.beg, by simp; omega⟩) (Nat.zero_le _) (Nat.zero_le _) h).1.len
set_option maxHeartbeats 8000000 in
set_option maxRecDepth 100000 in
theorem lawRoom {P : Nat → Prop} {w : World} {N : PNet} {v : Value} {e0 : Bool} (hv : NetV P w v N) (hs : Small N) : Calls Try.prog 4 #[.agg #[v], .bool e0] w (Yes w) := by
  have hv := hv.mono (Q := fun k => k < w.heap.size) (fun k _ hk => hk)
  obtain ⟨f, hr, hg⟩ := hv
  obtain ⟨a0, k0, rfl, _, _, _⟩ := hr.form
  obtain ⟨w0, hw0⟩ : ∃ W, W = w.alloc (.cells #[.slice a0 N.length k0] 24) := ⟨_, rfl⟩
  have hb0 : Below w.heap.size w w0 := by rw [hw0]; exact (Below.refl _ _).alloc (Nat.le_refl _) _
  have HB0 := Lib.hid hb0
  have HV0 := Lib.hid ((show NetV (fun k => k < w.heap.size) w (.slice a0 N.length k0) N from ⟨f, hr, hg⟩).up (Keep.below hb0))
  have H1 : Hid (Holds w0 w.heap.size 24 [.slice a0 N.length k0]) := by rw [hw0]; exact Holds.new w 24 #[.slice a0 N.length k0]
  clear hr hg hb0
  have c10 := H1.out.cell 0
  simp only [List.getElem?_cons_zero] at c10
  go_enter Try.func4, Try.ntmps4
  go_wp2_with (fail)
  rw [← hw0]
  clear hw0
  go_wp2_with (fail)
  refine (ofFn HV0.out hs).mono ?_
  rintro e w2 ⟨hb2, h2⟩
  have HB2 : Hid (Below w.heap.size w w2) := HB0.out.trans (hb2.mono HB0.out.size)
  by_cases hck : chk N = true
  · rw [if_pos hck] at h2
    obtain ⟨v2, rfl, hv2⟩ := h2
    have HOK := Lib.hid (graph_ok hv2 hck hs)
    obtain ⟨res, hres⟩ : ∃ r, exF (gsys N) 3000 20001 0 0 [(gsys N).beg] = r := ⟨_, rfl⟩
    have HRES := Lib.hid hres
    have HNS : Hid (∀ w', (Instr.typeAssert (.iface (gifc v2).tid (gifc v2).dyn) 36 53 true).run Try.prog w' = .ok (.tuple #[.nilIface, .bool false]) w') := fun w' => no_static _ w'
    clear hb2 hv2 HB0 HV0 H1 c10 hck hres
    go_wp2_with (fail)
    refine (explG (most := 3000) HOK.out (by omega) (by omega)).mono ?_
    rintro e w3 ⟨hb3, h3⟩
    rw [HRES.out] at h3
    have HB3 := Lib.hid hb3
    cases res with
    | none =>
      subst h3
      have HB4 : Hid (Below w.heap.size w (w3.alloc (.cells #[.slice none 0 0] 24))) := HB2.out.trans ((hb3.trans ((Below.refl _ w3).alloc hb3.size _)).mono HB2.out.size)
      clear hb3
      go_wp2_with (fail)
      refine (knownFn21 _).mono ?_
      rintro e w5 ⟨rfl, hb5⟩
      have HB5 : Hid (Below w.heap.size w w5) := HB4.out.trans (hb5.mono HB4.out.size)
      clear hb5
      go_wp2
      go_ret
      exact ⟨rfl, HB5.out⟩
    | some sg =>
      obtain ⟨st, g⟩ := sg
      obtain ⟨vn, vs, rfl, hvn, hvs⟩ := h3
      have hex := expl_of HRES.out
      have hfit := exF_fit HOK.out.small (most := 3000) (by omega) (by omega) HRES.out
      have hst : st.length ≤ 3000 := by have := exF_len HOK.out.small (by omega) HRES.out; exact this
      have hsz : ∀ s ∈ st, s.size ≤ 1048576 := fun s hs => rch_small HOK.out.small ((hex.rch s).1 hs)
      have htot : totB st ≤ 3000 * 1048576 := Nat.le_trans (totB_le hsz) (Nat.mul_le_mul_right _ hst)
      obtain ⟨fx, hrx, hgx⟩ := hvn
      obtain ⟨ax, kx, rfl, _, _, _⟩ := hrx.form
      obtain ⟨as0, cs0, rfl, _⟩ := hvs.form
      obtain ⟨w4, hw4⟩ : ∃ W, W = w3.alloc (.cells #[.slice ax g.length kx] 24) := ⟨_, rfl⟩
      have hb4 : Below w3.heap.size w3 w4 := by rw [hw4]; exact (Below.refl _ _).alloc (Nat.le_refl _) _
      have H4 : Hid (Holds w4 w3.heap.size 24 [.slice ax g.length kx]) := by rw [hw4]; exact Holds.new w3 24 #[.slice ax g.length kx]
      have HVN4 := Lib.hid ((show NetV (From w2.heap.size) w3 (.slice ax g.length kx) g from ⟨fx, hrx, hgx⟩).up (Keep.below hb4))
      have HVS4 := Lib.hid (hvs.up (Keep.below hb4))
      have HC4 : Hid (Below w2.heap.size w2 w4) := HB3.out.trans (hb4.mono HB3.out.size)
      have HEX := Lib.hid hex
      have HFG := Lib.hid hfit.1
      obtain ⟨M, hM⟩ : ∃ M, st.length = M := ⟨_, rfl⟩
      have HM := Lib.hid hM
      obtain ⟨T, hT⟩ : ∃ T, totB st = T := ⟨_, rfl⟩
      have HT := Lib.hid hT
      rw [hM] at hst HVS4
      rw [hT] at htot
      have HBND : Hid (1 ≤ M ∧ M ≤ 3000 ∧ T ≤ 3000 * 1048576) := ⟨by rw [← hM]; exact hex.pos, hst, htot⟩
      have HSZ := Lib.hid hsz
      clear hrx hgx hvs hb3 hb4 hex hfit hst hsz htot hM hT HB3
      rw [HM.out]
      go_wp2_with (fail)
      rw [← hw4]
      clear hw4
      obtain ⟨b7, hb7⟩ : ∃ b, w3.heap.size = b := ⟨_, rfl⟩
      rw [hb7] at H4 ⊢
      clear hb7
      go_wp2_with (fail)
      refine (show Calls Try.prog 11 #[.slice as0 M cs0] w4 (fun e w' => e = .returned (.int .i64 (T : Int)) ∧ Below w4.heap.size w4 w') from (by have h := bytesFn (L := st) (P := From w2.heap.size) (w := w4) (v := .slice as0 M cs0) (by rw [HM.out]; exact HVS4.out) (by have := HBND.out; have := HM.out; omega) HSZ.out; rw [HT.out] at h; exact h)).mono ?_
      rintro e w5 ⟨rfl, hb5⟩
      have HC5 : Hid (Below w2.heap.size w2 w5) := HC4.out.trans (hb5.mono HC4.out.size)
      have H45 := Lib.hid (H4.out.belowAll hb5)
      have HVN5 := Lib.hid (HVN4.out.up (Keep.below hb5))
      clear hb5 HC4 H4 HVN4 HVS4 HSZ
      go_wp2_with (refine wpList_storeB rfl 27 _ _ rfl w5.heap.size 0 [.int .i64 (M : Int), .int .i64 (M : Int), .int .i64 (T : Int), .bool e0, .bool false, .bool false, .int .u64 0] rfl rfl (Holds.new _ _ _) (Nat.le_of_ble_eq_true rfl) sz_Search (by simp [Value.oneCell']) ?_)
      refine Named.mk (fun w6 hw6 => ?_)
      obtain ⟨hb6, h6⟩ := search_new rfl hw6
      obtain ⟨b10, hb10⟩ : ∃ b, w5.heap.size = b := ⟨_, rfl⟩
      rw [hb10] at h6 ⊢
      have HC6 : Hid (Below w2.heap.size w2 w6) := HC5.out.trans (hb6.mono HC5.out.size)
      have H46 := Lib.hid (H45.out.belowAll hb6)
      have HVN6 := Lib.hid (HVN5.out.up (Keep.below hb6))
      have H6 := Lib.hid h6
      have HRG6 := Lib.hid (h6.range (i := 0) (n := 7) (xs := [.int .i64 (M : Int), .int .i64 (M : Int), .int .i64 (T : Int), .bool e0, .bool false, .bool false, .int .u64 0]) rfl)
      clear hb6 h6 hb10 HC5 H45 HVN5 hw6
      go_wp2_with (refine wpList_load_mid rfl 27 _ rfl b10 0 rfl [.int .i64 (M : Int), .int .i64 (M : Int), .int .i64 (T : Int), .bool e0, .bool false, .bool false, .int .u64 0] _ HRG6.out Try.underlying27 rfl sz_Search ?_)
      refine (runFn (o := ⟨(M : Int), (M : Int), (T : Int), e0, false, false, 0⟩) (M := M) (HOK.out.at HC6.out) HNS.out (by have := HBND.out; show (0 : Int) ≤ (M : Int) ∧ (M : Int) ≤ 9223372036854775807; omega) (by have := HBND.out; show (1 : Int) ≤ (M : Int) ∧ (M : Int) ≤ 9223372036854775807; omega) (by have := HBND.out; show (0 : Int) ≤ (T : Int) ∧ (T : Int) ≤ 9223372036854775807; omega) rfl (by have h := HEX.out.fewS; rw [HM.out] at h; exact h) (by have := HBND.out; omega)).mono ?_
      rintro e w7 ⟨hb7, fo, v, hr, rfl, vq, rfl, hvq⟩
      obtain ⟨qa, qc, rfl⟩ : ∃ a c, vq = .slice a fo.path.length c := by obtain ⟨f, h1, _⟩ := hvq; obtain ⟨a, c, h2, _⟩ := h1.form; exact ⟨a, c, h2⟩
      have HR := Lib.hid hr
      have HC7 : Hid (Below w2.heap.size w2 w7) := HC6.out.trans (hb7.mono HC6.out.size)
      have H47 := Lib.hid (H46.out.belowAll hb7)
      have H67 := Lib.hid (H6.out.belowAll hb7)
      have HVN7 := Lib.hid (HVN6.out.up (Keep.below hb7))
      have HMV7 := Lib.hid hvq
      clear hb7 hr hvq HRG6 HC6 H46 H6 HVN6
      go_wp2_with (refine wpList_storeB rfl 30 _ _ rfl w7.heap.size 0 [.int .i64 fo.verdict, .int .i64 fo.why, .slice qa fo.path.length qc, .int .i64 (-1), .int .i64 (fo.states : Int), .int .i64 (fo.moves : Int), .int .i64 (fo.deep : Int)] rfl rfl (Holds.new _ _ _) (Nat.le_of_ble_eq_true rfl) sz_Found found_one ?_)
      refine Named.mk (fun w8 hw8 => ?_)
      obtain ⟨hb8, h8⟩ := found_new rfl hw8
      obtain ⟨b11, hb11⟩ : ∃ b, w7.heap.size = b := ⟨_, rfl⟩
      rw [hb11] at h8 ⊢
      have HC8 : Hid (Below w2.heap.size w2 w8) := HC7.out.trans (hb8.mono HC7.out.size)
      have H48 := Lib.hid (H47.out.belowAll hb8)
      have H68 := Lib.hid (H67.out.belowAll hb8)
      have HRG8 := Lib.hid (H68.out.range (i := 0) (n := 7) (xs := [.int .i64 (M : Int), .int .i64 (M : Int), .int .i64 (T : Int), .bool e0, .bool false, .bool false, .int .u64 0]) rfl)
      have HVN8 := Lib.hid (HVN7.out.up (Keep.below hb8))
      have HMV8 := Lib.hid (HMV7.out.up (Keep.below hb8))
      have H118 := Lib.hid h8
      clear hb8 h8 hw8 hb11 HC7 H47 H67 HVN7 HMV7
      go_wp2_with (refine wpList_load_mid rfl 27 _ rfl b10 0 rfl [.int .i64 (M : Int), .int .i64 (M : Int), .int .i64 (T : Int), .bool e0, .bool false, .bool false, .int .u64 0] _ HRG8.out Try.underlying27 rfl sz_Search ?_)
      refine (runFn (o := ⟨(M : Int), (M : Int), (T : Int), e0, false, false, 0⟩) (M := M) (HOK.out.at HC8.out) HNS.out (by have := HBND.out; show (0 : Int) ≤ (M : Int) ∧ (M : Int) ≤ 9223372036854775807; omega) (by have := HBND.out; show (1 : Int) ≤ (M : Int) ∧ (M : Int) ≤ 9223372036854775807; omega) (by have := HBND.out; show (0 : Int) ≤ (T : Int) ∧ (T : Int) ≤ 9223372036854775807; omega) rfl (by have h := HEX.out.fewS; rw [HM.out] at h; exact h) (by have := HBND.out; omega)).mono ?_
      rintro e w9 ⟨hb9, r2, v, hr2, rfl, vq, rfl, hvq⟩
      obtain rfl := HR.out.same hr2
      obtain ⟨ua, uc, rfl⟩ : ∃ a c, vq = .slice a fo.path.length c := by obtain ⟨f, h1, _⟩ := hvq; obtain ⟨a, c, h2, _⟩ := h1.form; exact ⟨a, c, h2⟩
      have HC9 : Hid (Below w2.heap.size w2 w9) := HC8.out.trans (hb9.mono HC8.out.size)
      have H49 := Lib.hid (H48.out.belowAll hb9)
      have HVN9 := Lib.hid (HVN8.out.up (Keep.below hb9))
      have HMV9 := Lib.hid (HMV8.out.up (Keep.below hb9))
      have HMW9 := Lib.hid hvq
      have H119 := Lib.hid (H118.out.belowAll hb9)
      clear hb9 hr2 hvq HRG8 HC8 H48 H68 HVN8 HMV8 H118
      go_wp2_with (refine wpList_storeB rfl 30 _ _ rfl w9.heap.size 0 [.int .i64 fo.verdict, .int .i64 fo.why, .slice ua fo.path.length uc, .int .i64 (-1), .int .i64 (fo.states : Int), .int .i64 (fo.moves : Int), .int .i64 (fo.deep : Int)] rfl rfl (Holds.new _ _ _) (Nat.le_of_ble_eq_true rfl) sz_Found found_one ?_)
      refine Named.mk (fun wz hwz => ?_)
      obtain ⟨hbz, hz⟩ := found_new rfl hwz
      obtain ⟨b13, hb13⟩ : ∃ b, w9.heap.size = b := ⟨_, rfl⟩
      rw [hb13] at hz ⊢
      have HBZ : Hid (Below w.heap.size w wz) := HB2.out.trans ((HC9.out.trans (hbz.mono HC9.out.size)).mono HB2.out.size)
      have H4Z := H49.out.belowAll hbz
      have HRG4 := Lib.hid (H4Z.range (i := 0) (n := 1) (xs := [.slice ax g.length kx]) rfl)
      have HVNZ := Lib.hid (HVN9.out.up (Keep.below hbz))
      have HMVZ := Lib.hid (HMV9.out.up (Keep.below hbz))
      have HMWZ := Lib.hid (HMW9.out.up (Keep.below hbz))
      have H11Z := H119.out.belowAll hbz
      have c10 := H11Z.cell 0
      have c12 := H11Z.cell 2
      have c20 := hz.cell 0
      have c22 := hz.cell 2
      simp only [List.getElem?_cons_zero, List.getElem?_cons_succ] at c10 c12 c20 c22
      have hFO : FoundOk (gsys N) ⟨(M : Int), (M : Int), (T : Int), e0, false, false, 0⟩ fo := HR.out.ok (allP_ok _) (by have := HBND.out; show (1 : Int) ≤ M; omega) (by have := HBND.out; show (0 : Int) ≤ M; omega)
      have HPS := Lib.hid (path_small HOK.out.small hFO)
      have HPL := Lib.hid (path_len (N := M) hFO (Int.le_refl _))
      obtain ⟨fb, d3, d2, hfb⟩ : ∃ fb, (fo.verdict != 3) = true ∧ (fo.verdict == 2) = fb ∧ failsP g e0 = fb := by
        rcases room_law HEX.out HR.out (by rw [HM.out]; exact Int.le_refl _) (by rw [HM.out]; exact Int.le_refl _) (by rw [HT.out]; exact Int.le_refl _) with ⟨h1, h2⟩ | ⟨h1, h2⟩
        · exact ⟨false, by rw [h1]; rfl, by rw [h1]; rfl, h2⟩
        · exact ⟨true, by rw [h1]; rfl, by rw [h1]; rfl, h2⟩
      have HFB := Lib.hid hfb
      clear hbz hz hwz hb13 H4Z H11Z hFO hfb HC9 H49 HVN9 HMV9 HMW9 H119
      go_wp2_with (fail)
      refine wp_region_rhoG (fun (r : Unit) j => ([(.int .i64 0), (.bool true), (.bool true), (.int .i64 0), (.bool true), (.bool true), (.bool true), (.pointer (some ⟨b11, 0, none⟩)), (.int .i64 fo.verdict), (.bool true), (.bool true), (.bool true), (.pointer (some ⟨b11, 0, none⟩)), (.int .i64 fo.verdict), (.bool fb), (.agg #[.slice ax g.length kx]), (.bool e0), (.bool fb), (.bool true), (.bool true), (.bool true), (.pointer (some ⟨b11, 0, none⟩)), (.int .i64 fo.verdict), (.pointer (some ⟨b13, 0, none⟩)), (.int .i64 fo.verdict), (.bool true), (.bool true), (.bool true), (.pointer (some ⟨b11, 2, none⟩)), (.slice qa fo.path.length qc), (.pointer (some ⟨b13, 2, none⟩)), (.slice ua fo.path.length uc), (.bool true), (.bool true), (.bool true), (.bool true), (.bool true), (.bool true)] : List Value).getD j undef) (fun _ L w2 => Below wz.heap.size wz w2) [(0, 54), (1, 55), (2, 56), (3, 57), (4, 58), (5, 59), (6, 60), (7, 61), (8, 62), (9, 63), (10, 64), (11, 65), (12, 66), (13, 67), (14, 68), (15, 69), (16, 70), (17, 71), (18, 72), (19, 73), (20, 74), (21, 75), (22, 76), (23, 77), (24, 78), (25, 79), (26, 80), (27, 81), (28, 82), (29, 83), (30, 84), (31, 85), (32, 86), (33, 87), (34, 88), (35, 89), (36, 90), (37, 4)] 91 rfl (by kernel_rfl) (by kernel_rfl) [(2, true), (6, true), (11, true), (20, true), (27, true), (34, true)] (by kernel_rfl) (fun r p hp => by simp only [List.mem_cons, List.not_mem_nil, or_false] at hp; rcases hp with rfl | rfl | rfl | rfl | rfl | rfl <;> rfl) () (Below.refl _ _).drew (fun i hi => ?_) (fun r w9 hW9 => ?_)
      · have hi2 : i < 38 := hi
        clear hi
        have hi3 : i = 0 ∨ i = 1 ∨ i = 2 ∨ i = 3 ∨ i = 4 ∨ i = 5 ∨ i = 6 ∨ i = 7 ∨ i = 8 ∨ i = 9 ∨ i = 10 ∨ i = 11 ∨ i = 12 ∨ i = 13 ∨ i = 14 ∨ i = 15 ∨ i = 16 ∨ i = 17 ∨ i = 18 ∨ i = 19 ∨ i = 20 ∨ i = 21 ∨ i = 22 ∨ i = 23 ∨ i = 24 ∨ i = 25 ∨ i = 26 ∨ i = 27 ∨ i = 28 ∨ i = 29 ∨ i = 30 ∨ i = 31 ∨ i = 32 ∨ i = 33 ∨ i = 34 ∨ i = 35 ∨ i = 36 ∨ i = 37 := by omega
        clear hi2
        rcases hi3 with rfl | rfl | rfl | rfl | rfl | rfl | rfl | rfl | rfl | rfl | rfl | rfl | rfl | rfl | rfl | rfl | rfl | rfl | rfl | rfl | rfl | rfl | rfl | rfl | rfl | rfl | rfl | rfl | rfl | rfl | rfl | rfl | rfl | rfl | rfl | rfl | rfl | rfl
        · exact RhoOp.pure rfl (fun r L b w2 hl hR hW => by
            have h12 : b.eval (.tmp 12) = .int .i64 0 := (hR.old (by decide) (by kernel_rfl)).trans rfl
            simp only [Act.eval, Array.getD_eq_getD_getElem?] at h12
            show (execOp b.eval _).run _ _ = .ok (.value (.int .i64 0)) _
            unfold execOp
            simp [go_sem, h12]) (fun _ _ _ _ h => h)
        · exact RhoOp.pure rfl (fun r L b w2 hl hR hW => by
            have h54 : b.eval (.tmp 54) = .int .i64 0 := hR.of (j := 0) (by decide) (by kernel_rfl)
            simp only [Act.eval, Array.getD_eq_getD_getElem?] at h54
            show (execOp b.eval _).run _ _ = .ok (.value (.bool true)) _
            unfold execOp
            simp [go_sem, h54]) (fun _ _ _ _ h => h)
        · exact RhoOp.pure rfl (fun r L b w2 hl hR hW => by
            have h55 : b.eval (.tmp 55) = .bool true := hR.of (j := 1) (by decide) (by kernel_rfl)
            simp only [Act.eval, Array.getD_eq_getD_getElem?] at h55
            show (execOp b.eval _).run _ _ = .ok (.value (.bool true)) _
            unfold execOp
            simp [go_sem, h55]) (fun _ _ _ _ h => h)
        · exact RhoOp.pure rfl (fun r L b w2 hl hR hW => by
            have h14 : b.eval (.tmp 14) = .int .i64 0 := (hR.old (by decide) (by kernel_rfl)).trans rfl
            simp only [Act.eval, Array.getD_eq_getD_getElem?] at h14
            show (execOp b.eval _).run _ _ = .ok (.value (.int .i64 0)) _
            unfold execOp
            simp [go_sem, h14]) (fun _ _ _ _ h => h)
        · exact RhoOp.pure rfl (fun r L b w2 hl hR hW => by
            have h57 : b.eval (.tmp 57) = .int .i64 0 := hR.of (j := 3) (by decide) (by kernel_rfl)
            simp only [Act.eval, Array.getD_eq_getD_getElem?] at h57
            show (execOp b.eval _).run _ _ = .ok (.value (.bool true)) _
            unfold execOp
            simp [go_sem, h57]) (fun _ _ _ _ h => h)
        · exact RhoOp.pure rfl (fun r L b w2 hl hR hW => by
            have h56 : b.eval (.tmp 56) = .bool true := hR.of (j := 2) (by decide) (by kernel_rfl)
            have h58 : b.eval (.tmp 58) = .bool true := hR.of (j := 4) (by decide) (by kernel_rfl)
            simp only [Act.eval, Array.getD_eq_getD_getElem?] at h56 h58
            show (execOp b.eval _).run _ _ = .ok (.value (.bool true)) _
            unfold execOp
            simp [go_sem, h56, h58]) (fun _ _ _ _ h => h)
        · exact RhoOp.pure rfl (fun r L b w2 hl hR hW => by
            have h59 : b.eval (.tmp 59) = .bool true := hR.of (j := 5) (by decide) (by kernel_rfl)
            simp only [Act.eval, Array.getD_eq_getD_getElem?] at h59
            show (execOp b.eval _).run _ _ = .ok (.value (.bool true)) _
            unfold execOp
            simp [go_sem, h59]) (fun _ _ _ _ h => h)
        · exact RhoOp.pure rfl (fun r L b w2 hl hR hW => by
            have h11 : b.eval (.tmp 11) = .pointer (some ⟨b11, 0, none⟩) := (hR.old (by decide) (by kernel_rfl)).trans rfl
            simp only [Act.eval, Array.getD_eq_getD_getElem?] at h11
            show (execOp b.eval _).run _ _ = .ok (.value (.pointer (some ⟨b11, 0, none⟩))) _
            unfold execOp
            simp [go_sem, h11]) (fun _ _ _ _ h => h)
        · exact RhoOp.pure rfl (fun r L b w2 hl hR hW => by
            have e := cell_up c10 hW
            have h61 : b.eval (.tmp 61) = .pointer (some ⟨b11, 0, none⟩) := hR.of (j := 7) (by decide) (by kernel_rfl)
            simp only [Act.eval, Array.getD_eq_getD_getElem?] at h61
            show (execOp b.eval _).run _ _ = .ok (.value (.int .i64 fo.verdict)) _
            unfold execOp
            simp [go_sem, h61, e]) (fun _ _ _ _ h => h)
        · exact RhoOp.pure rfl (fun r L b w2 hl hR hW => by
            have h62 : b.eval (.tmp 62) = .int .i64 fo.verdict := hR.of (j := 8) (by decide) (by kernel_rfl)
            simp only [Act.eval, Array.getD_eq_getD_getElem?] at h62
            show (execOp b.eval _).run _ _ = .ok (.value (.bool true)) _
            unfold execOp
            simp [go_sem, h62, d3]) (fun _ _ _ _ h => h)
        · exact RhoOp.pure rfl (fun r L b w2 hl hR hW => by
            have h60 : b.eval (.tmp 60) = .bool true := hR.of (j := 6) (by decide) (by kernel_rfl)
            have h63 : b.eval (.tmp 63) = .bool true := hR.of (j := 9) (by decide) (by kernel_rfl)
            simp only [Act.eval, Array.getD_eq_getD_getElem?] at h60 h63
            show (execOp b.eval _).run _ _ = .ok (.value (.bool true)) _
            unfold execOp
            simp [go_sem, h60, h63]) (fun _ _ _ _ h => h)
        · exact RhoOp.pure rfl (fun r L b w2 hl hR hW => by
            have h64 : b.eval (.tmp 64) = .bool true := hR.of (j := 10) (by decide) (by kernel_rfl)
            simp only [Act.eval, Array.getD_eq_getD_getElem?] at h64
            show (execOp b.eval _).run _ _ = .ok (.value (.bool true)) _
            unfold execOp
            simp [go_sem, h64]) (fun _ _ _ _ h => h)
        · exact RhoOp.pure rfl (fun r L b w2 hl hR hW => by
            have h11 : b.eval (.tmp 11) = .pointer (some ⟨b11, 0, none⟩) := (hR.old (by decide) (by kernel_rfl)).trans rfl
            simp only [Act.eval, Array.getD_eq_getD_getElem?] at h11
            show (execOp b.eval _).run _ _ = .ok (.value (.pointer (some ⟨b11, 0, none⟩))) _
            unfold execOp
            simp [go_sem, h11]) (fun _ _ _ _ h => h)
        · exact RhoOp.pure rfl (fun r L b w2 hl hR hW => by
            have e := cell_up c10 hW
            have h66 : b.eval (.tmp 66) = .pointer (some ⟨b11, 0, none⟩) := hR.of (j := 12) (by decide) (by kernel_rfl)
            simp only [Act.eval, Array.getD_eq_getD_getElem?] at h66
            show (execOp b.eval _).run _ _ = .ok (.value (.int .i64 fo.verdict)) _
            unfold execOp
            simp [go_sem, h66, e]) (fun _ _ _ _ h => h)
        · exact RhoOp.pure rfl (fun r L b w2 hl hR hW => by
            have h67 : b.eval (.tmp 67) = .int .i64 fo.verdict := hR.of (j := 13) (by decide) (by kernel_rfl)
            simp only [Act.eval, Array.getD_eq_getD_getElem?] at h67
            show (execOp b.eval _).run _ _ = .ok (.value (.bool fb)) _
            unfold execOp
            simp [go_sem, h67, d2]) (fun _ _ _ _ h => h)
        · exact RhoOp.pure rfl (fun r L b w2 hl hR hW => by
            have hlo := run_loadAt_mid (P := Try.prog) w2 b7 0 24 [.slice ax g.length kx] _ (range_below HRG4.out hW) Try.underlying24 rfl sz_Net
            have h7 : b.eval (.tmp 7) = .pointer (some ⟨b7, 0, none⟩) := (hR.old (by decide) (by kernel_rfl)).trans rfl
            simp only [Act.eval, Array.getD_eq_getD_getElem?] at h7
            show (execOp b.eval _).run _ _ = .ok (.value (.agg #[.slice ax g.length kx])) _
            unfold execOp
            simp [Act.eval, h7, Sem.run_bind, hlo]) (fun _ _ _ _ h => h)
        · exact RhoOp.pure rfl (fun r L b w2 hl hR hW => by
            have h1 : b.eval (.tmp 1) = .bool e0 := (hR.old (by decide) (by kernel_rfl)).trans rfl
            simp only [Act.eval, Array.getD_eq_getD_getElem?] at h1
            show (execOp b.eval _).run _ _ = .ok (.value (.bool e0)) _
            unfold execOp
            simp [go_sem, h1]) (fun _ _ _ _ h => h)
        · exact RhoOp.call (f := 12) rfl (fun r L b w2 hs hl hR hW => by
            have h69 : b.eval (.tmp 69) = .agg #[.slice ax g.length kx] := hR.of (j := 15) (by decide) (by kernel_rfl)
            have h70 : b.eval (.tmp 70) = .bool e0 := hR.of (j := 16) (by decide) (by kernel_rfl)
            simp only [Act.eval, Array.getD_eq_getD_getElem?] at h69 h70
            refine ⟨#[.agg #[.slice ax g.length kx], .bool e0], ?_, ?_⟩
            · unfold execOp
              simp [go_sem, h69, h70]
            · refine (failsFn (HVNZ.out.up (Keep.below hW)) HFG.out.nodes (fun x hx => (by obtain ⟨i, hi, rfl⟩ := List.getElem_of_mem hx; exact Nat.le_trans (node_le hi) HFG.out.arcs))).mono fun e w4 h => ?_
              exact ⟨(), fun _ _ => rfl, (by rw [← HFB.out]; exact h.1), hW.trans (h.2.mono hW.size)⟩)
        · exact RhoOp.pure rfl (fun r L b w2 hl hR hW => by
            have h68 : b.eval (.tmp 68) = .bool fb := hR.of (j := 14) (by decide) (by kernel_rfl)
            have h71 : b.eval (.tmp 71) = .bool fb := hR.of (j := 17) (by decide) (by kernel_rfl)
            simp only [Act.eval, Array.getD_eq_getD_getElem?] at h68 h71
            show (execOp b.eval _).run _ _ = .ok (.value (.bool true)) _
            unfold execOp
            simp [go_sem, h68, h71]) (fun _ _ _ _ h => h)
        · exact RhoOp.pure rfl (fun r L b w2 hl hR hW => by
            have h65 : b.eval (.tmp 65) = .bool true := hR.of (j := 11) (by decide) (by kernel_rfl)
            have h72 : b.eval (.tmp 72) = .bool true := hR.of (j := 18) (by decide) (by kernel_rfl)
            simp only [Act.eval, Array.getD_eq_getD_getElem?] at h65 h72
            show (execOp b.eval _).run _ _ = .ok (.value (.bool true)) _
            unfold execOp
            simp [go_sem, h65, h72]) (fun _ _ _ _ h => h)
        · exact RhoOp.pure rfl (fun r L b w2 hl hR hW => by
            have h73 : b.eval (.tmp 73) = .bool true := hR.of (j := 19) (by decide) (by kernel_rfl)
            simp only [Act.eval, Array.getD_eq_getD_getElem?] at h73
            show (execOp b.eval _).run _ _ = .ok (.value (.bool true)) _
            unfold execOp
            simp [go_sem, h73]) (fun _ _ _ _ h => h)
        · exact RhoOp.pure rfl (fun r L b w2 hl hR hW => by
            have h11 : b.eval (.tmp 11) = .pointer (some ⟨b11, 0, none⟩) := (hR.old (by decide) (by kernel_rfl)).trans rfl
            simp only [Act.eval, Array.getD_eq_getD_getElem?] at h11
            show (execOp b.eval _).run _ _ = .ok (.value (.pointer (some ⟨b11, 0, none⟩))) _
            unfold execOp
            simp [go_sem, h11]) (fun _ _ _ _ h => h)
        · exact RhoOp.pure rfl (fun r L b w2 hl hR hW => by
            have e := cell_up c10 hW
            have h75 : b.eval (.tmp 75) = .pointer (some ⟨b11, 0, none⟩) := hR.of (j := 21) (by decide) (by kernel_rfl)
            simp only [Act.eval, Array.getD_eq_getD_getElem?] at h75
            show (execOp b.eval _).run _ _ = .ok (.value (.int .i64 fo.verdict)) _
            unfold execOp
            simp [go_sem, h75, e]) (fun _ _ _ _ h => h)
        · exact RhoOp.pure rfl (fun r L b w2 hl hR hW => by
            have h13 : b.eval (.tmp 13) = .pointer (some ⟨b13, 0, none⟩) := (hR.old (by decide) (by kernel_rfl)).trans rfl
            simp only [Act.eval, Array.getD_eq_getD_getElem?] at h13
            show (execOp b.eval _).run _ _ = .ok (.value (.pointer (some ⟨b13, 0, none⟩))) _
            unfold execOp
            simp [go_sem, h13]) (fun _ _ _ _ h => h)
        · exact RhoOp.pure rfl (fun r L b w2 hl hR hW => by
            have e := cell_up c20 hW
            have h77 : b.eval (.tmp 77) = .pointer (some ⟨b13, 0, none⟩) := hR.of (j := 23) (by decide) (by kernel_rfl)
            simp only [Act.eval, Array.getD_eq_getD_getElem?] at h77
            show (execOp b.eval _).run _ _ = .ok (.value (.int .i64 fo.verdict)) _
            unfold execOp
            simp [go_sem, h77, e]) (fun _ _ _ _ h => h)
        · exact RhoOp.pure rfl (fun r L b w2 hl hR hW => by
            have h76 : b.eval (.tmp 76) = .int .i64 fo.verdict := hR.of (j := 22) (by decide) (by kernel_rfl)
            have h78 : b.eval (.tmp 78) = .int .i64 fo.verdict := hR.of (j := 24) (by decide) (by kernel_rfl)
            simp only [Act.eval, Array.getD_eq_getD_getElem?] at h76 h78
            show (execOp b.eval _).run _ _ = .ok (.value (.bool true)) _
            unfold execOp
            simp [go_sem, h76, h78]) (fun _ _ _ _ h => h)
        · exact RhoOp.pure rfl (fun r L b w2 hl hR hW => by
            have h74 : b.eval (.tmp 74) = .bool true := hR.of (j := 20) (by decide) (by kernel_rfl)
            have h79 : b.eval (.tmp 79) = .bool true := hR.of (j := 25) (by decide) (by kernel_rfl)
            simp only [Act.eval, Array.getD_eq_getD_getElem?] at h74 h79
            show (execOp b.eval _).run _ _ = .ok (.value (.bool true)) _
            unfold execOp
            simp [go_sem, h74, h79]) (fun _ _ _ _ h => h)
        · exact RhoOp.pure rfl (fun r L b w2 hl hR hW => by
            have h80 : b.eval (.tmp 80) = .bool true := hR.of (j := 26) (by decide) (by kernel_rfl)
            simp only [Act.eval, Array.getD_eq_getD_getElem?] at h80
            show (execOp b.eval _).run _ _ = .ok (.value (.bool true)) _
            unfold execOp
            simp [go_sem, h80]) (fun _ _ _ _ h => h)
        · exact RhoOp.pure rfl (fun r L b w2 hl hR hW => by
            have h11 : b.eval (.tmp 11) = .pointer (some ⟨b11, 0, none⟩) := (hR.old (by decide) (by kernel_rfl)).trans rfl
            simp only [Act.eval, Array.getD_eq_getD_getElem?] at h11
            show (execOp b.eval _).run _ _ = .ok (.value (.pointer (some ⟨b11, 2, none⟩))) _
            unfold execOp
            simp [go_sem, h11]) (fun _ _ _ _ h => h)
        · exact RhoOp.pure rfl (fun r L b w2 hl hR hW => by
            have e := cell_up c12 hW
            have h82 : b.eval (.tmp 82) = .pointer (some ⟨b11, 2, none⟩) := hR.of (j := 28) (by decide) (by kernel_rfl)
            simp only [Act.eval, Array.getD_eq_getD_getElem?] at h82
            show (execOp b.eval _).run _ _ = .ok (.value (.slice qa fo.path.length qc)) _
            unfold execOp
            simp [go_sem, h82, e]) (fun _ _ _ _ h => h)
        · exact RhoOp.pure rfl (fun r L b w2 hl hR hW => by
            have h13 : b.eval (.tmp 13) = .pointer (some ⟨b13, 0, none⟩) := (hR.old (by decide) (by kernel_rfl)).trans rfl
            simp only [Act.eval, Array.getD_eq_getD_getElem?] at h13
            show (execOp b.eval _).run _ _ = .ok (.value (.pointer (some ⟨b13, 2, none⟩))) _
            unfold execOp
            simp [go_sem, h13]) (fun _ _ _ _ h => h)
        · exact RhoOp.pure rfl (fun r L b w2 hl hR hW => by
            have e := cell_up c22 hW
            have h84 : b.eval (.tmp 84) = .pointer (some ⟨b13, 2, none⟩) := hR.of (j := 30) (by decide) (by kernel_rfl)
            simp only [Act.eval, Array.getD_eq_getD_getElem?] at h84
            show (execOp b.eval _).run _ _ = .ok (.value (.slice ua fo.path.length uc)) _
            unfold execOp
            simp [go_sem, h84, e]) (fun _ _ _ _ h => h)
        · exact RhoOp.call (f := 13) rfl (fun r L b w2 hs hl hR hW => by
            have h83 : b.eval (.tmp 83) = .slice qa fo.path.length qc := hR.of (j := 29) (by decide) (by kernel_rfl)
            have h85 : b.eval (.tmp 85) = .slice ua fo.path.length uc := hR.of (j := 31) (by decide) (by kernel_rfl)
            simp only [Act.eval, Array.getD_eq_getD_getElem?] at h83 h85
            refine ⟨#[.slice qa fo.path.length qc, .slice ua fo.path.length uc], ?_, ?_⟩
            · unfold execOp
              simp [go_sem, h83, h85]
            · refine (movesSame (HMVZ.out.up (Keep.below hW)) (HMWZ.out.up (Keep.below hW)) HPS.out (by have := HPL.out; have := HBND.out; omega)).mono fun e w4 h => ?_
              exact ⟨(), fun _ _ => rfl, h.1, hW.trans (h.2.mono hW.size)⟩)
        · exact RhoOp.pure rfl (fun r L b w2 hl hR hW => by
            have h81 : b.eval (.tmp 81) = .bool true := hR.of (j := 27) (by decide) (by kernel_rfl)
            have h86 : b.eval (.tmp 86) = .bool true := hR.of (j := 32) (by decide) (by kernel_rfl)
            simp only [Act.eval, Array.getD_eq_getD_getElem?] at h81 h86
            show (execOp b.eval _).run _ _ = .ok (.value (.bool true)) _
            unfold execOp
            simp [go_sem, h81, h86]) (fun _ _ _ _ h => h)
        · exact RhoOp.pure rfl (fun r L b w2 hl hR hW => by
            have h87 : b.eval (.tmp 87) = .bool true := hR.of (j := 33) (by decide) (by kernel_rfl)
            simp only [Act.eval, Array.getD_eq_getD_getElem?] at h87
            show (execOp b.eval _).run _ _ = .ok (.value (.bool true)) _
            unfold execOp
            simp [go_sem, h87]) (fun _ _ _ _ h => h)
        · exact RhoOp.call (f := 7) rfl (fun r L b w2 hs hl hR hW => by
            refine ⟨#[], ?_, ?_⟩
            · unfold execOp
              simp [go_sem, ]
            · refine (knownFn21 w2).mono fun e w4 h => ?_
              exact ⟨(), fun _ _ => rfl, h.1, hW.trans (h.2.mono hW.size)⟩)
        · exact RhoOp.pure rfl (fun r L b w2 hl hR hW => by
            have h88 : b.eval (.tmp 88) = .bool true := hR.of (j := 34) (by decide) (by kernel_rfl)
            have h89 : b.eval (.tmp 89) = .bool true := hR.of (j := 35) (by decide) (by kernel_rfl)
            simp only [Act.eval, Array.getD_eq_getD_getElem?] at h88 h89
            show (execOp b.eval _).run _ _ = .ok (.value (.bool true)) _
            unfold execOp
            simp [go_sem, h88, h89]) (fun _ _ _ _ h => h)
        · exact RhoOp.pure rfl (fun r L b w2 hl hR hW => by
            have h90 : b.eval (.tmp 90) = .bool true := hR.of (j := 36) (by decide) (by kernel_rfl)
            simp only [Act.eval, Array.getD_eq_getD_getElem?] at h90
            show (execOp b.eval _).run _ _ = .ok (.value (.bool true)) _
            unfold execOp
            simp [go_sem, h90]) (fun _ _ _ _ h => h)
      · refine puts_as (ps := [(0, 54, .int .i64 0), (1, 55, .bool true), (2, 56, .bool true), (3, 57, .int .i64 0), (4, 58, .bool true), (5, 59, .bool true), (6, 60, .bool true), (7, 61, .pointer (some ⟨b11, 0, none⟩)), (8, 62, .int .i64 fo.verdict), (9, 63, .bool true), (10, 64, .bool true), (11, 65, .bool true), (12, 66, .pointer (some ⟨b11, 0, none⟩)), (13, 67, .int .i64 fo.verdict), (14, 68, .bool fb), (15, 69, .agg #[.slice ax g.length kx]), (16, 70, .bool e0), (17, 71, .bool fb), (18, 72, .bool true), (19, 73, .bool true), (20, 74, .bool true), (21, 75, .pointer (some ⟨b11, 0, none⟩)), (22, 76, .int .i64 fo.verdict), (23, 77, .pointer (some ⟨b13, 0, none⟩)), (24, 78, .int .i64 fo.verdict), (25, 79, .bool true), (26, 80, .bool true), (27, 81, .bool true), (28, 82, .pointer (some ⟨b11, 2, none⟩)), (29, 83, .slice qa fo.path.length qc), (30, 84, .pointer (some ⟨b13, 2, none⟩)), (31, 85, .slice ua fo.path.length uc), (32, 86, .bool true), (33, 87, .bool true), (34, 88, .bool true), (35, 89, .bool true), (36, 90, .bool true), (37, 4, .bool true)]) rfl ?_
        simp only [puts, Act.put, List.setIfInBounds_toArray, List.set_cons_zero, List.set_cons_succ]
        have HBE : Hid (Below w.heap.size w w9) := HBZ.out.trans (hW9.mono HBZ.out.size)
        clear hW9 HRG4 HVNZ HMVZ HMWZ c10 c12 c20 c22
        go_wp2
        go_ret
        exact ⟨rfl, HBE.out⟩
  · rw [if_neg hck] at h2
    subst h2
    clear hb2 HB0 HV0 H1 c10 hck
    go_wp2_with (fail)
    refine (knownFn21 _).mono ?_
    rintro e w5 ⟨rfl, hb5⟩
    have HB5 : Hid (Below w.heap.size w w5) := HB2.out.trans (hb5.mono HB2.out.size)
    clear hb5
    go_wp2
    go_ret
    exact ⟨rfl, HB5.out⟩
end Go.Proofs.Ytpednhcfkjjcpaa.G
