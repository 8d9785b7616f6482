/- The walk of net.Explore at any system (printed by mkgxp.py out of XExp). -/
import Derived.Test.YtcedenoicmpjmaaGmv
import Derived.Test.YtcedenoicmpjmaaExp
namespace Go.Proofs.Ytcedenoicmpjmaa.G
open Go.RowKit Go.Maps
set_option linter.unusedVariables false
set_option linter.unusedSimpArgs false
attribute [local go_sem] Oper.semAt_some run_makeMap

set_option maxHeartbeats 4000000 in
set_option maxRecDepth 100000 in
theorem exploreG {I : Ifc} {S : Sys} {w : World} {most : Nat} (hS : SysOk I S w) (h1 : 1 ≤ most) (h2 : most ≤ 20000) : Calls Try.prog 17 #[.iface I.tid I.dyn, .int .i64 (most : Int)] w (ExPost (exF S most 20001 0 0 [S.beg]) w) := by
  obtain ⟨res, hres⟩ : ∃ r, exF S most 20001 0 0 [S.beg] = r := ⟨_, rfl⟩
  have HRES := Lib.hid hres
  rw [hres]
  clear hres
  have d1 : decide ((most : Int) < 1) = false := decide_eq_false (by omega)
  have d2 : decide ((20000 : Int) < (most : Int)) = false := decide_eq_false (by omega)
  have m1 := hS.mB
  have m2 := hS.eB
  have HSS := Lib.hid hS
  refine (callsIn_wide (n := 5)).1 ?_
  refine callsIn_of_wp_marks Try.func17 rfl trivial ?_ rfl
  simp only [Try.ntmps17, List.size_toArray, List.length_cons, List.length_nil, Nat.reduceAdd, Nat.reduceSub, Array.replicate_succ, Array.replicate_zero, List.push_toArray, List.append_toArray, List.nil_append, List.cons_append]
  gi_wp2_with fail
  obtain ⟨w1, hw1⟩ : ∃ W, W = ((((w.alloc (.cells #[.int .i64 (most : Int)] 3)).alloc (.cells #[.slice none 0 0] 24)).alloc (.cells #[.slice none 0 0] 46)).alloc (.cells #[.int .i64 0] 28)) := ⟨_, rfl⟩
  rw [← hw1]
  refine ⟨trivial, ?_⟩
  have hbw1 : Below w.heap.size w w1 := by rw [hw1]; exact ((((Below.refl _ w).alloc (Nat.le_refl _) _).alloc (by simp) _).alloc (by simp; omega) _).alloc (by simp; omega) _
  refine (callsIn_wide.2 (HSS.out.beg w1 hbw1)).mono ?_
  rintro e w2 ⟨rfl, hb2⟩
  have HS0 : Hid (S.beg.size ≤ 1048576) := HSS.out.small.beg
  have HI1 : Hid (∀ W, ExI S most w.heap.size [] 0 [S.beg] [] 0 W) := fun W => by
    refine ⟨⟨by simp, by simpa using HS0.out, by simp; omega⟩, ⟨rfl, by simp⟩, ⟨20001, by omega, ?_⟩, by omega, by simp, by simp⟩
    cases exF S most 20001 0 0 [S.beg] <;> rfl
  obtain ⟨s0, hs0⟩ : ∃ s, S.beg = s := ⟨_, rfl⟩
  rw [hs0] at HS0 HI1 HRES ⊢
  have HSB := Lib.hid hs0
  clear hbw1 hs0 hS
  have HNUM : Hid (NumV 0 ((((w2.alloc (.cells #[.string s0] 9)).alloc (.cells #[.slice (some ⟨w2.heap.size, 0, none⟩) 1 1] 46))).alloc (.map #[] 0)) (w2.heap.size + 1 + 1) 0 []) := by
    have h := World.ownsMap_made (H := Unit) ((w2.alloc (.cells #[.string s0] 9)).alloc (.cells #[.slice (some ⟨w2.heap.size, 0, none⟩) 1 1] 46)) Try.prog 9 (plainElem Try.prog 3)
    simp only [World.size_alloc] at h
    exact ⟨_, h, NumD.nil 0⟩
  gi_wp2_with (refine wpListIn_insert_num (off := 0) rfl _ _ _ (.inl rfl) (w2.heap.size + 1 + 1) 0 s0 [] rfl rfl rfl HNUM.out (by unfold maxLen; omega) HS0.out (by simp) (by simp) ?_)
  intro w3 hnum hgr
  gi_wp2
  obtain ⟨W, hW⟩ : ∃ W, W = ((w3.alloc (.cells #[.map (some (w2.heap.size + 1 + 1))] 84)).alloc (.cells #[.slice none 0 0] 24)).alloc (.cells #[.int .i64 0] 3) := ⟨_, rfl⟩
  have HE := ExV.start hw1 hb2 hnum hgr hW
  rw [← hW]
  obtain ⟨b6, h6⟩ : ∃ b, w.heap.size + 1 + 1 + 1 = b := ⟨_, rfl⟩
  obtain ⟨m, hm⟩ : ∃ b, w2.heap.size + 1 + 1 = b := ⟨_, rfl⟩
  obtain ⟨b10, h10⟩ : ∃ b, w3.heap.size + 1 + 1 = b := ⟨_, rfl⟩
  rw [h6, hm, h10] at HE ⊢
  obtain ⟨b5, h5⟩ : ∃ b, w.heap.size + 1 + 1 = b := ⟨_, rfl⟩
  obtain ⟨b7, h7⟩ : ∃ b, w2.heap.size + 1 = b := ⟨_, rfl⟩
  obtain ⟨b9, h9⟩ : ∃ b, w3.heap.size + 1 = b := ⟨_, rfl⟩
  rw [h5, h7, h9] at HE ⊢
  obtain ⟨b4, h4⟩ : ∃ b, w.heap.size + 1 = b := ⟨_, rfl⟩
  obtain ⟨b8, h8⟩ : ∃ b, w3.heap.size = b := ⟨_, rfl⟩
  obtain ⟨g0, hg0⟩ : ∃ b, w2.heap.size = b := ⟨_, rfl⟩
  rw [h4, h8, hg0] at HE ⊢
  obtain ⟨b3, h3⟩ : ∃ b, w.heap.size = b := ⟨_, rfl⟩
  rw [h3] at HE ⊢
  have HB3 : Hid (w.heap.size = b3) := h3
  have HE0 := Lib.hid HE
  have HI0 : Hid (ExI S most b3 [] 0 [s0] [] 0 W) := by rw [← HB3.out]; exact HI1.out W
  clear HI1 hw1 hb2 hnum hgr hW HNUM h6 hm h10 h5 h7 h9 h4 h8 hg0 h3 HE
  refine wpIn_loop (fun a' w' => ∃ (i : Nat) (st : List ByteArray) (out : PNet) (cnt : Nat) (vs vo : Value) (ds : List Nat) (P : Nat → Prop), Hid (ExI S most b3 ds i st out cnt w') ∧ Hid (ExV b3 P ⟨b3, b4, b5, b6, b7, b8, b9, b10, m⟩ w w' most st out cnt vs vo) ∧ ∃ u : Nat → Value, a' = { tmps := #[.iface I.tid I.dyn, .int .i64 (most : Int), undef, .pointer (some ⟨b3, 0, none⟩), .pointer (some ⟨b4, 0, none⟩), .pointer (some ⟨b5, 0, none⟩), .pointer (some ⟨b6, 0, none⟩), .pointer (some ⟨b7, 0, none⟩), .pointer (some ⟨b8, 0, none⟩), .pointer (some ⟨b9, 0, none⟩), .pointer (some ⟨b10, 0, none⟩), .int .i64 (i : Int), u 12, u 13, u 14, u 15, u 16, u 17, .iface I.tid I.dyn, .bool false, .bool false, .int .i64 (most : Int), .bool false, .bool false, .bool false, .int .i64 (most : Int), .bool false, .bool false, undef, .iface I.tid I.dyn, .string s0, .slice (some ⟨g0, 0, none⟩) 1 1, .map (some m), .slice (some ⟨g0, 0, none⟩) 1 1, .pointer (some ⟨g0, 0, none⟩), .string s0, .map (some m), u 37, u 38, u 39, u 40, u 41, u 42, u 43, u 44, u 45, u 46, u 47, u 48, u 49, u 50, u 51, u 52, u 53, u 54, u 55, u 56, u 57, u 58, u 59, u 60, u 61, u 62, u 63, u 64, u 65, u 66, u 67, u 68, u 69, u 70, u 71, u 72, u 73, u 74, u 75, u 76, u 77, u 78, u 79, u 80, u 81, u 82, u 83, u 84, u 85, u 86, u 87, u 88, u 89, u 90, u 91, u 92, u 93, u 94, u 95, u 96, u 97, u 98, u 99, u 100, u 101, u 102, u 103, u 104, u 105, u 106, u 107, u 108, u 109, u 110, u 111, u 112, u 113, u 114, u 115, u 116, u 117, u 118, u 119, u 120, u 121, u 122, u 123, u 124, u 125, u 126, u 127, u 128, u 129], defers := ds.map mark }) (fun a' _ => 20001 - (intOf (a'.tmps.getD 11 undef)).toNat) ⟨0, [s0], [], 0, _, _, [], _, HI0, HE0, fun _ => undef, rfl⟩ ?_
  rintro a' wr ⟨i, st, out, cnt, vs, vo, ds, PN, HI, HE, u, rfl⟩
  clear HI0 HE0
  have e7 := HE.out.states.cell 0
  simp only [List.getElem?_cons_zero] at e7
  obtain ⟨av, cv, rfl, hcv, _⟩ := owns_form HE.out.row
  obtain ⟨sl, hL⟩ : ∃ L, st.length = L := ⟨_, rfl⟩
  have HL := Lib.hid hL
  rw [hL] at e7 hcv
  clear hL
  by_cases hil : i < sl
  · have hlm : sl ≤ 20000 := by
      have h3 := HI.out.met.len
      have h4 := HL.out
      omega
    have hi2i : (i : Int) < (sl : Int) := by omega
    have hi0i : (0 : Int) ≤ (i : Int) := by omega
    have hwii : IntKind.i64.wrap (i : Int) = (i : Int) := by rw [IntKind.wrap_i64]; omega
    have hwji : IntKind.i64.wrap ((i : Int) + 1) = (i : Int) + 1 := by rw [IntKind.wrap_i64]; omega
    dsimp only
    gi_wp2
    refine wpIn_wide.2 ?_
    have hilst : i < st.length := by rw [HL.out]; exact hil
    obtain ⟨k, hk⟩ : ∃ k, st[i] = k := ⟨_, rfl⟩
    have HK := Lib.hid hk
    obtain ⟨gs, cs, css, he, _, hges, hbs, hcls, hcts⟩ := owns_box HE.out.row (by omega)
    injection he with he _ he'
    subst he he'
    have hci : css[i]? = some (.string k) := by
      have h1 : (css.take (st.length * 1))[i]? = css[i]? := by rw [List.getElem?_take_of_lt (by omega)]
      rw [← h1, hcts, List.getElem?_map, List.getElem?_eq_getElem hilst, hk]
      rfl
    have HCI := Lib.hid hci
    have HBS := Lib.hid hbs
    have HST := Lib.hid HE.out.states
    have HKS : Hid (k.size ≤ 1048576) := by
      have := HI.out.met.size _ (List.getElem_mem hilst)
      rw [hk] at this
      exact this
    have HBW : Hid (Below w.heap.size w wr) := HE.out.below.mono (by rw [HB3.out]; exact Nat.le_refl _)
    clear hk hges hbs hcls hcts hci e7
    refine wp_region_rho (fun (r : Nat) j => ([(.iface I.tid I.dyn), (.slice (some ⟨gs, 0, none⟩) sl cv), (.int .i64 (i : Int)), (.pointer (some ⟨gs, i, none⟩)), (.string k), (.func (.method "Look") #[.iface I.tid I.dyn] #[]), (.func (.method "Look") #[.iface I.tid I.dyn] #[]), (.iface I.tid I.dyn), (sight (S.look k)), (.pointer (some ⟨r, 0, none⟩)), (undef)] : List Value).getD j undef) (fun r L w2 => Below wr.heap.size wr w2 ∧ (L.getD 9 false = true → wr.heap.size ≤ r ∧ Holds w2 r 40 (if L.getD 10 false then (sightC (S.look k)) else [.int .u64 0, .bool false, .bool false, .bool false])) ∧ (L.getD 10 false = true → L.getD 9 false = true)) [(0, 43), (1, 44), (2, 45), (3, 46), (4, 47), (5, 48), (6, 49), (7, 50), (8, 51), (9, 12)] 130 rfl (by kernel_rfl) (by kernel_rfl) (by kernel_rfl) 0 ⟨(Fr.refl (fun _ => False) wr).drew.to_below (Nat.le_refl _) (fun _ _ h => h), (fun h => by simp at h), (fun h => by simp at h)⟩ (fun i hi => ?_) (fun r w9 hW9 => ?_)
    · have hi2 : i < 11 := hi
      clear hi
      have hi3 : i = 0 ∨ i = 1 ∨ i = 2 ∨ i = 3 ∨ i = 4 ∨ i = 5 ∨ i = 6 ∨ i = 7 ∨ i = 8 ∨ i = 9 ∨ i = 10 := by omega
      clear hi2
      rcases hi3 with rfl | rfl | rfl | rfl | rfl | rfl | rfl | rfl | rfl | rfl | rfl
      · exact RhoOp.pure rfl (fun r L b w2 hl hR hW => by
          have h0 : b.eval (.tmp 0) = .iface I.tid I.dyn := (hR.old (by decide) (by kernel_rfl)).trans rfl
          simp only [Act.eval, Array.getD_eq_getD_getElem?] at h0
          show (execOp b.eval _).run _ _ = .ok (.value (.iface I.tid I.dyn)) _
          unfold execOp
          simp [go_sem, h0]) (fun r L w2 hs h => by
          simp only [gd_ne (L := L) (i := 0) (j := 9) (by decide), gd_ne (L := L) (i := 0) (j := 10) (by decide)]
          exact h)
      · exact RhoOp.pure rfl (fun r L b w2 hl hR hW => by
          have e : w2.cell? ⟨b7, 0, none⟩ = some (.slice (some ⟨gs, 0, none⟩) sl cv) := ((HST.out.belowAll hW.1).cell 0).trans (by rw [HL.out]; rfl)
          have h7 : b.eval (.tmp 7) = .pointer (some ⟨b7, 0, none⟩) := (hR.old (by decide) (by kernel_rfl)).trans rfl
          simp only [Act.eval, Array.getD_eq_getD_getElem?] at h7
          show (execOp b.eval _).run _ _ = .ok (.value (.slice (some ⟨gs, 0, none⟩) sl cv)) _
          unfold execOp
          simp [go_sem, h7, e]) (fun r L w2 hs h => by
          simp only [gd_ne (L := L) (i := 1) (j := 9) (by decide), gd_ne (L := L) (i := 1) (j := 10) (by decide)]
          exact h)
      · exact RhoOp.pure rfl (fun r L b w2 hl hR hW => by
          have h11 : b.eval (.tmp 11) = .int .i64 (i : Int) := (hR.old (by decide) (by kernel_rfl)).trans rfl
          simp only [Act.eval, Array.getD_eq_getD_getElem?] at h11
          show (execOp b.eval _).run _ _ = .ok (.value (.int .i64 (i : Int))) _
          unfold execOp
          simp [go_sem, h11]) (fun r L w2 hs h => by
          simp only [gd_ne (L := L) (i := 2) (j := 9) (by decide), gd_ne (L := L) (i := 2) (j := 10) (by decide)]
          exact h)
      · exact RhoOp.pure rfl (fun r L b w2 hl hR hW => by
          have h44 : b.eval (.tmp 44) = .slice (some ⟨gs, 0, none⟩) sl cv := hR.of (j := 1) (by decide) (by kernel_rfl)
          have h45 : b.eval (.tmp 45) = .int .i64 (i : Int) := hR.of (j := 2) (by decide) (by kernel_rfl)
          simp only [Act.eval, Array.getD_eq_getD_getElem?] at h44 h45
          show (execOp b.eval _).run _ _ = .ok (.value (.pointer (some ⟨gs, i, none⟩))) _
          unfold execOp
          simp [go_sem, h44, h45, hi0i, hi2i, hwii]) (fun r L w2 hs h => by
          simp only [gd_ne (L := L) (i := 3) (j := 9) (by decide), gd_ne (L := L) (i := 3) (j := 10) (by decide)]
          exact h)
      · exact RhoOp.pure rfl (fun r L b w2 hl hR hW => by
          have e : w2.cell? ⟨gs, i, none⟩ = some (.string k) := ((HBS.out.belowAll hW.1).cell i).trans HCI.out
          have h46 : b.eval (.tmp 46) = .pointer (some ⟨gs, i, none⟩) := hR.of (j := 3) (by decide) (by kernel_rfl)
          simp only [Act.eval, Array.getD_eq_getD_getElem?] at h46
          show (execOp b.eval _).run _ _ = .ok (.value (.string k)) _
          unfold execOp
          simp [go_sem, h46, e]) (fun r L w2 hs h => by
          simp only [gd_ne (L := L) (i := 4) (j := 9) (by decide), gd_ne (L := L) (i := 4) (j := 10) (by decide)]
          exact h)
      · exact RhoOp.pure rfl (fun r L b w2 hl hR hW => by
          have h43 : b.eval (.tmp 43) = .iface I.tid I.dyn := hR.of (j := 0) (by decide) (by kernel_rfl)
          simp only [Act.eval, Array.getD_eq_getD_getElem?] at h43
          show (execOp b.eval _).run _ _ = .ok (.value (.func (.method "Look") #[.iface I.tid I.dyn] #[])) _
          unfold execOp
          simp [go_sem, h43]) (fun r L w2 hs h => by
          simp only [gd_ne (L := L) (i := 5) (j := 9) (by decide), gd_ne (L := L) (i := 5) (j := 10) (by decide)]
          exact h)
      · exact RhoOp.pure rfl (fun r L b w2 hl hR hW => by
          have e := HSS.out.nL w2
          have h48 : b.eval (.tmp 48) = .func (.method "Look") #[.iface I.tid I.dyn] #[] := hR.of (j := 5) (by decide) (by kernel_rfl)
          simp only [Act.eval, Array.getD_eq_getD_getElem?] at h48
          show (execOp b.eval _).run _ _ = .ok (.value (.func (.method "Look") #[.iface I.tid I.dyn] #[])) _
          unfold execOp
          simp [go_sem, h48, e]) (fun r L w2 hs h => by
          simp only [gd_ne (L := L) (i := 6) (j := 9) (by decide), gd_ne (L := L) (i := 6) (j := 10) (by decide)]
          exact h)
      · exact RhoOp.pure rfl (fun r L b w2 hl hR hW => by
          have h43 : b.eval (.tmp 43) = .iface I.tid I.dyn := hR.of (j := 0) (by decide) (by kernel_rfl)
          simp only [Act.eval, Array.getD_eq_getD_getElem?] at h43
          show (execOp b.eval _).run _ _ = .ok (.value (.iface I.tid I.dyn)) _
          unfold execOp
          simp [go_sem, h43]) (fun r L w2 hs h => by
          simp only [gd_ne (L := L) (i := 7) (j := 9) (by decide), gd_ne (L := L) (i := 7) (j := 10) (by decide)]
          exact h)
      · exact RhoOp.call (f := I.fL) rfl (fun r L b w2 hs hl hR hW => by
          have h50 : b.eval (.tmp 50) = .iface I.tid I.dyn := hR.of (j := 7) (by decide) (by kernel_rfl)
          have h47 : b.eval (.tmp 47) = .string k := hR.of (j := 4) (by decide) (by kernel_rfl)
          simp only [Act.eval, Array.getD_eq_getD_getElem?] at h50 h47
          refine ⟨#[I.dyn, .string k], ?_, ?_⟩
          · unfold execOp
            simp [go_sem, h50, h47, HSS.out.mL, HSS.out.eL]
          · refine (HSS.out.look w2 k (HBW.out.trans (hW.1.mono HBW.out.size)) HKS.out).mono fun e w4 h => ?_
            obtain ⟨hb, he⟩ := h
            refine ⟨r, fun _ _ => rfl, he, hW.1.trans (hb.mono hW.1.size), fun q => ?_, fun q => ?_⟩
            · rw [gd_ne (by decide)] at q
              rw [gd_ne (by decide)]
              exact ⟨(hW.2.1 q).1, (hW.2.1 q).2.belowAll hb⟩
            · rw [gd_ne (by decide)] at q
              rw [gd_ne (by decide)]
              exact hW.2.2 q)
      · exact RhoOp.make rfl (fun r L b w2 hs hl hR hW => by
          refine ⟨w2.heap.size, w2.alloc (.cells #[.int .u64 0, .bool false, .bool false, .bool false] 40), ?_, ?_, ?_⟩
          · exact fun j hj => match j, hj with | 9, hj => (by rw [hl] at hj; cases hj) | 0, _ => rfl | 1, _ => rfl | 2, _ => rfl | 3, _ => rfl | 4, _ => rfl | 5, _ => rfl | 6, _ => rfl | 7, _ => rfl | 8, _ => rfl | 10, _ => rfl | j + 11, _ => rfl
          · show (execOp b.eval _).run _ _ = .ok (.value (.pointer (some ⟨(w2.heap.size), 0, none⟩))) _
            unfold execOp
            simp [go_sem, ]
          · have hb : Below w2.heap.size w2 (w2.alloc (.cells #[.int .u64 0, .bool false, .bool false, .bool false] 40)) := (Below.refl _ _).alloc (Nat.le_refl _) _
            have h10 : L.getD 10 false = false := by
              cases hq : L.getD 10 false with
              | false => rfl
              | true => have := hW.2.2 hq; rw [hl] at this; cases this
            refine ⟨hW.1.trans (hb.mono hW.1.size), fun _ => ⟨hW.1.size, ?_⟩, fun q => ?_⟩
            · rw [gd_ne (by decide), h10]
              exact Holds.new w2 40 #[.int .u64 0, .bool false, .bool false, .bool false]
            · rw [gd_ne (by decide), h10] at q; cases q)
      · exact RhoOp.store rfl rfl (fun r L b w2 hs hl hR hW => by
          have h9 := hR.on (j := 9) (by kernel_rfl)
          obtain ⟨hge, hbx⟩ := hW.2.1 h9
          rw [hl] at hbx
          have hst := storeN (P := Try.prog) (ty := 40) (xs := sightC (S.look k)) (i := 0) hbx (Nat.le_of_ble_eq_true rfl) sz_Sight rfl
          have h12 : b.eval (.tmp 12) = .pointer (some ⟨r, 0, none⟩) := hR.of (j := 9) (by decide) (by kernel_rfl)
          have h51 : b.eval (.tmp 51) = sight (S.look k) := hR.of (j := 8) (by decide) (by kernel_rfl)
          simp only [Act.eval, Array.getD_eq_getD_getElem?] at h12 h51
          refine ⟨r, setR w2 r 0 (sightC (S.look k)), fun _ _ => rfl, ?_, ?_⟩
          · show (execOp b.eval _).run _ _ = .ok .skip _
            unfold execOp
            simp [Act.eval, h12, h51, Sem.run_bind, sight_agg, hst]
          · have hfr := Fr.setRX r (sightC (S.look k)) 0 w2
            refine ⟨hW.1.trans (hfr.to_below hW.1.size fun q hq e => by omega), fun _ => ⟨hge, ?_⟩, fun _ => ?_⟩
            · rw [gd_eq (by rw [hs]; decide), if_pos rfl]
              have := hbx.stored (W' := setR w2 r 0 (sightC (S.look k))) rfl (Nat.le_of_ble_eq_true rfl)
              exact this
            · rw [gd_ne (by decide)]; exact h9)
    · refine puts_as (ps := [(0, 43, .iface I.tid I.dyn), (1, 44, .slice (some ⟨gs, 0, none⟩) sl cv), (2, 45, .int .i64 (i : Int)), (3, 46, .pointer (some ⟨gs, i, none⟩)), (4, 47, .string k), (5, 48, .func (.method "Look") #[.iface I.tid I.dyn] #[]), (6, 49, .func (.method "Look") #[.iface I.tid I.dyn] #[]), (7, 50, .iface I.tid I.dyn), (8, 51, sight (S.look k)), (9, 12, .pointer (some ⟨r, 0, none⟩))]) rfl ?_
      simp only [puts, Act.put, List.setIfInBounds_toArray, List.set_cons_zero, List.set_cons_succ]
      obtain ⟨hb9, h9, -⟩ := hW9
      obtain ⟨hge, hbx⟩ := h9 rfl
      generalize r = b12 at *
      obtain ⟨x, hx⟩ : ∃ x, S.look k = x := ⟨_, rfl⟩
      rw [hx] at hbx ⊢
      replace hbx : Holds w9 b12 40 (sightC x) := hbx
      have HXX := Lib.hid hx
      have f0 := hbx.cell 0
      have f1 := hbx.cell 1
      have f2 := hbx.cell 2
      have f3 := hbx.cell 3
      simp only [sightC, List.getElem?_cons_zero, List.getElem?_cons_succ] at f0 f1 f2 f3
      have HB9 := Lib.hid hb9
      have HZ13 : Hid (Holds (w9.alloc (.cells #[.slice none 0 0, .int .u64 0, .bool false, .bool false, .bool false] 53)) w9.heap.size 53 [.slice none 0 0, .int .u64 0, .bool false, .bool false, .bool false]) := Holds.new w9 53 #[.slice none 0 0, .int .u64 0, .bool false, .bool false, .bool false]
      clear hb9 h9 hbx hx hge
      gi_wp2_with (refine wpListIn_storeB rfl 53 _ _ rfl w9.heap.size 0 [.slice none 0 0, .int .u64 (x.props : Int), .bool x.fin, .bool x.prog, .bool x.acc] rfl rfl HZ13.out (Nat.le_of_ble_eq_true rfl) sz_Node rfl ?_)
      refine Named.mk (fun w13 hW13 => ?_)
      have hb13 : Below w9.heap.size w9 w13 := by rw [hW13]; exact Below.far (Below.refl _ _) (Nat.le_refl _) _ _ _
      have hD13 := HZ13.out.stored hW13 (Nat.le_of_ble_eq_true rfl)
      have HX13 : Hid (Holds w13 w9.heap.size 53 [.slice none 0 0, .int .u64 (x.props : Int), .bool x.fin, .bool x.prog, .bool x.acc]) := hD13
      have HB13 := Lib.hid (HB9.out.trans (hb13.mono HB9.out.size))
      obtain ⟨b13, hb13e⟩ : ∃ b, w9.heap.size = b := ⟨_, rfl⟩
      have HGE13 : Hid (wr.heap.size ≤ b13) := by rw [← hb13e]; exact HB9.out.size
      rw [hb13e] at HX13 ⊢
      clear hW13 hb13 hD13 HZ13 f0 f1 f2 f3 hb13e
      gi_wp2
      refine wpIn_wide.2 ?_
      have HST2 := Lib.hid (HST.out.belowAll HB13.out)
      have HBS2 := Lib.hid (HBS.out.belowAll HB13.out)
      refine wp_region_rho (fun (r : Value) j => ([(.iface I.tid I.dyn), (.slice (some ⟨gs, 0, none⟩) sl cv), (.int .i64 (i : Int)), (.pointer (some ⟨gs, i, none⟩)), (.string k), (.func (.method "Next") #[.iface I.tid I.dyn] #[]), (.func (.method "Next") #[.iface I.tid I.dyn] #[]), (.iface I.tid I.dyn), (r)] : List Value).getD j undef) (fun r L w2 => Below w13.heap.size w13 w2 ∧ (L.getD 8 false = true → ItV I (S.next k) w.heap.size r w2)) [(0, 61), (1, 62), (2, 63), (3, 64), (4, 65), (5, 66), (6, 67), (7, 68), (8, 69)] 130 rfl (by kernel_rfl) (by kernel_rfl) (by kernel_rfl) undef ⟨(Fr.refl (fun _ => False) w13).drew.to_below (Nat.le_refl _) (fun _ _ h => h), (fun h => by simp at h)⟩ (fun i hi => ?_) (fun r w9 hW9 => ?_)
      · have hi2 : i < 9 := hi
        clear hi
        have hi3 : i = 0 ∨ i = 1 ∨ i = 2 ∨ i = 3 ∨ i = 4 ∨ i = 5 ∨ i = 6 ∨ i = 7 ∨ i = 8 := by omega
        clear hi2
        rcases hi3 with rfl | rfl | rfl | rfl | rfl | rfl | rfl | rfl | rfl
        · exact RhoOp.pure rfl (fun r L b w2 hl hR hW => by
            have h0 : b.eval (.tmp 0) = .iface I.tid I.dyn := (hR.old (by decide) (by kernel_rfl)).trans rfl
            simp only [Act.eval, Array.getD_eq_getD_getElem?] at h0
            show (execOp b.eval _).run _ _ = .ok (.value (.iface I.tid I.dyn)) _
            unfold execOp
            simp [go_sem, h0]) (fun r L w2 hs h => by
            simp only [gd_ne (L := L) (i := 0) (j := 8) (by decide)]
            exact h)
        · exact RhoOp.pure rfl (fun r L b w2 hl hR hW => by
            have e : w2.cell? ⟨b7, 0, none⟩ = some (.slice (some ⟨gs, 0, none⟩) sl cv) := ((HST2.out.belowAll hW.1).cell 0).trans (by rw [HL.out]; rfl)
            have h7 : b.eval (.tmp 7) = .pointer (some ⟨b7, 0, none⟩) := (hR.old (by decide) (by kernel_rfl)).trans rfl
            simp only [Act.eval, Array.getD_eq_getD_getElem?] at h7
            show (execOp b.eval _).run _ _ = .ok (.value (.slice (some ⟨gs, 0, none⟩) sl cv)) _
            unfold execOp
            simp [go_sem, h7, e]) (fun r L w2 hs h => by
            simp only [gd_ne (L := L) (i := 1) (j := 8) (by decide)]
            exact h)
        · exact RhoOp.pure rfl (fun r L b w2 hl hR hW => by
            have h11 : b.eval (.tmp 11) = .int .i64 (i : Int) := (hR.old (by decide) (by kernel_rfl)).trans rfl
            simp only [Act.eval, Array.getD_eq_getD_getElem?] at h11
            show (execOp b.eval _).run _ _ = .ok (.value (.int .i64 (i : Int))) _
            unfold execOp
            simp [go_sem, h11]) (fun r L w2 hs h => by
            simp only [gd_ne (L := L) (i := 2) (j := 8) (by decide)]
            exact h)
        · exact RhoOp.pure rfl (fun r L b w2 hl hR hW => by
            have h62 : b.eval (.tmp 62) = .slice (some ⟨gs, 0, none⟩) sl cv := hR.of (j := 1) (by decide) (by kernel_rfl)
            have h63 : b.eval (.tmp 63) = .int .i64 (i : Int) := hR.of (j := 2) (by decide) (by kernel_rfl)
            simp only [Act.eval, Array.getD_eq_getD_getElem?] at h62 h63
            show (execOp b.eval _).run _ _ = .ok (.value (.pointer (some ⟨gs, i, none⟩))) _
            unfold execOp
            simp [go_sem, h62, h63, hi0i, hi2i, hwii]) (fun r L w2 hs h => by
            simp only [gd_ne (L := L) (i := 3) (j := 8) (by decide)]
            exact h)
        · exact RhoOp.pure rfl (fun r L b w2 hl hR hW => by
            have e : w2.cell? ⟨gs, i, none⟩ = some (.string k) := ((HBS2.out.belowAll hW.1).cell i).trans HCI.out
            have h64 : b.eval (.tmp 64) = .pointer (some ⟨gs, i, none⟩) := hR.of (j := 3) (by decide) (by kernel_rfl)
            simp only [Act.eval, Array.getD_eq_getD_getElem?] at h64
            show (execOp b.eval _).run _ _ = .ok (.value (.string k)) _
            unfold execOp
            simp [go_sem, h64, e]) (fun r L w2 hs h => by
            simp only [gd_ne (L := L) (i := 4) (j := 8) (by decide)]
            exact h)
        · exact RhoOp.pure rfl (fun r L b w2 hl hR hW => by
            have h61 : b.eval (.tmp 61) = .iface I.tid I.dyn := hR.of (j := 0) (by decide) (by kernel_rfl)
            simp only [Act.eval, Array.getD_eq_getD_getElem?] at h61
            show (execOp b.eval _).run _ _ = .ok (.value (.func (.method "Next") #[.iface I.tid I.dyn] #[])) _
            unfold execOp
            simp [go_sem, h61]) (fun r L w2 hs h => by
            simp only [gd_ne (L := L) (i := 5) (j := 8) (by decide)]
            exact h)
        · exact RhoOp.pure rfl (fun r L b w2 hl hR hW => by
            have e := HSS.out.nN w2
            have h66 : b.eval (.tmp 66) = .func (.method "Next") #[.iface I.tid I.dyn] #[] := hR.of (j := 5) (by decide) (by kernel_rfl)
            simp only [Act.eval, Array.getD_eq_getD_getElem?] at h66
            show (execOp b.eval _).run _ _ = .ok (.value (.func (.method "Next") #[.iface I.tid I.dyn] #[])) _
            unfold execOp
            simp [go_sem, h66, e]) (fun r L w2 hs h => by
            simp only [gd_ne (L := L) (i := 6) (j := 8) (by decide)]
            exact h)
        · exact RhoOp.pure rfl (fun r L b w2 hl hR hW => by
            have h61 : b.eval (.tmp 61) = .iface I.tid I.dyn := hR.of (j := 0) (by decide) (by kernel_rfl)
            simp only [Act.eval, Array.getD_eq_getD_getElem?] at h61
            show (execOp b.eval _).run _ _ = .ok (.value (.iface I.tid I.dyn)) _
            unfold execOp
            simp [go_sem, h61]) (fun r L w2 hs h => by
            simp only [gd_ne (L := L) (i := 7) (j := 8) (by decide)]
            exact h)
        · exact RhoOp.call (f := I.fN) rfl (fun r L b w2 hs hl hR hW => by
            have h68 : b.eval (.tmp 68) = .iface I.tid I.dyn := hR.of (j := 7) (by decide) (by kernel_rfl)
            have h65 : b.eval (.tmp 65) = .string k := hR.of (j := 4) (by decide) (by kernel_rfl)
            simp only [Act.eval, Array.getD_eq_getD_getElem?] at h68 h65
            refine ⟨#[I.dyn, .string k], ?_, ?_⟩
            · unfold execOp
              simp [go_sem, h68, h65, HSS.out.mN, HSS.out.eN]
            · refine (HSS.out.next w2 k ((HBW.out.trans (HB13.out.mono HBW.out.size)).trans (hW.1.mono (Nat.le_trans HBW.out.size HB13.out.size))) HKS.out).mono fun e w4 h => ?_
              obtain ⟨hb, f, he, hf⟩ := h
              refine ⟨f, fun j hj => ?_, he, hW.1.trans (hb.mono hW.1.size), fun _ => hf⟩
              match j, hj with
              | 8, hj => rw [hl] at hj; cases hj
              | 0, _ => rfl
              | 1, _ => rfl
              | 2, _ => rfl
              | 3, _ => rfl
              | 4, _ => rfl
              | 5, _ => rfl
              | 6, _ => rfl
              | 7, _ => rfl
              | j + 9, _ => rfl)
      · refine puts_as (ps := [(0, 61, .iface I.tid I.dyn), (1, 62, .slice (some ⟨gs, 0, none⟩) sl cv), (2, 63, .int .i64 (i : Int)), (3, 64, .pointer (some ⟨gs, i, none⟩)), (4, 65, .string k), (5, 66, .func (.method "Next") #[.iface I.tid I.dyn] #[]), (6, 67, .func (.method "Next") #[.iface I.tid I.dyn] #[]), (7, 68, .iface I.tid I.dyn), (8, 69, r)]) rfl ?_
        simp only [puts, Act.put, List.setIfInBounds_toArray, List.set_cons_zero, List.set_cons_succ]
        obtain ⟨hb12, h12⟩ := hW9
        have hit := h12 rfl
        obtain ⟨lb, rfl, hit⟩ := hit
        obtain ⟨ms, hms⟩ : ∃ l, S.next k = l := ⟨_, rfl⟩
        rw [hms] at hit
        have HMS := Lib.hid hms
        clear hms
        clear h12 HST2 HBS2 HST HBS
        have HB12 : Hid (Below wr.heap.size wr w9) := HB13.out.trans (hb12.mono HB13.out.size)
        have HRS : Hid (RngI b3 w9.heap.size b13 (fun q => PN q ∧ q < wr.heap.size) ⟨b3, b4, b5, b6, b7, b8, b9, b10, m⟩ w most st out cnt x ms vo ds 0 w9) := ⟨st, [], _, _, rfl, RndV.start HE.out HB12.out (Holds.belowAll HX13.out hb12) HGE13.out, Nat.zero_le _, marks_below HB12.out HI.out.marks.2⟩
        have hbw : b3 ≤ w.heap.size := Nat.le_of_eq HB3.out.symm
        have hbl : b3 ≤ w9.heap.size := Nat.le_trans hbw (Nat.le_trans HE.out.below.size HB12.out.size)
        have HDS : Hid (∀ D ∈ ds, D < w9.heap.size) := fun D hD => Nat.lt_of_lt_of_le (Array.getElem?_eq_some_iff.1 (HI.out.marks.2 D hD).2).1 HB12.out.size
        have HXT : Hid (∀ a ∈ ms, a.dst.size ≤ 1048576) := fun a ha => HSS.out.small.dsts k HKS.out a (by rw [HMS.out]; exact ha)
        have hseq := hit 4 b3 w9 (Nat.le_of_eq HB3.out) hbl (Below.refl _ _)
        clear hit
        clear hb12 HX13 HB13
        gi_wp2
        refine wpIn_at fun T hT => ?_
        refine wpIn_rangeFunc_tells (α := Value) (encs := fun y => #[y]) (Kp := KpT b3 w9.heap.size) (S := fun ys => ys.length = ms.length) (Sp := fun _ => True) (N := ms.length) (w0 := w9) (G := Tells ms) rfl (by omega) (gf := I.fG) (lb := lb) (by subst hT; rfl) trivial HSS.out.enter KpT.trans (KpT.put hbl) (Below.refl _ _) (fun _ => rfl)
          (fun pre W => RngI b3 w9.heap.size b13 (fun q => PN q ∧ q < wr.heap.size) ⟨b3, b4, b5, b6, b7, b8, b9, b10, m⟩ w most st out cnt x ms vo ds pre.length W) hseq (fun c pre W => c = .ret ∧ RngX b3 ⟨b3, b4, b5, b6, b7, b8, b9, b10, m⟩ w most st cnt ms ds W) ?hI ?hIx HRS.out
          (fun pre y a' W => ∃ b14, a' = { tmps := (T.setIfInBounds 70 y).setIfInBounds 14 (.pointer (some ⟨b14, 0, none⟩)), defers := [] } ∧ RngA b3 w9.heap.size b13 (fun q => PN q ∧ q < wr.heap.size) ⟨b3, b4, b5, b6, b7, b8, b9, b10, m⟩ w most st out cnt x ms vo ds pre.length b14 W) ?hAx ?assign ?body ?done ?stop
        case hI => exact fun pre V V' row hs hg hr => hs.kept hg hr HDS.out
        case hIx => exact fun c pre V V' row hs hg hr => ⟨hs.1, hs.2.kept hg hr HDS.out hbl hbw⟩
        case hAx => exact fun pre y a' s V V' row hs hg hr => by obtain ⟨b14, h1, h2⟩ := hs; exact ⟨b14, h1, h2.kept hg hr HDS.out⟩
        case assign =>
          intro l pre y W0 W K hi0 hb01 hi hG hK
          obtain ⟨hj, vr, vw, rfl, hr, hw⟩ := hG
          subst hT
          have HZ14 := Lib.hid (Holds.new W 79 #[.int .i64 0, .int .i64 0, .int .i64 0, .int .i64 0, .string ⟨#[]⟩, .int .i64 0, .slice none 0 0, .slice none 0 0, .int .u64 0])
          have hone : (mvC ms[pre.length] vr vw).all (·.oneCell') = true := by
            have q1 := hr.2.cell1
            have q2 := hw.2.cell1
            simp [mvC, q1, q2]
            simp [Value.oneCell']
          gi_wp2_with (refine wpListIn_storeB rfl 79 _ _ rfl W.heap.size 0 (mvC ms[pre.length] vr vw) rfl rfl HZ14.out (Nat.le_of_ble_eq_true rfl) sz_Move hone ?_)
          refine Named.mk (fun W' hW' => ?_)
          have hb' : Below W.heap.size W W' := by rw [hW']; exact Below.far (Below.refl _ _) (Nat.le_refl _) _ _ _
          have h14 : Holds W' W.heap.size 79 (mvC ms[pre.length] vr vw) := HZ14.out.stored hW' (Nat.le_of_ble_eq_true rfl)
          have hA := RngA.start hi0 hb01 hj hr hw hb' h14
          have hi2 := hi.fresh hb'
          have hbb : Below b3 W W' := hb'.mono (by obtain ⟨_, _, _, _, _, hh, _⟩ := hi; have := hh.ge; omega)
          have hkk := (Turns.below (lo := w9.heap.size) hb').keeps
          have hbk : KpT b3 w9.heap.size W W' := ⟨hbb, (Turns.below hb').safe⟩
          clear hW' h14 HZ14
          gi_wp2
          exact hK _ _ hkk hbk hi2 ⟨W.heap.size, rfl, hA⟩
        case body =>
          rintro l pre y a' W hl2 hrec hi ⟨b14, rfl, hj, st1, bs, vs1, va, vr, vw, hs1, hR, h14, hmk⟩ hlen
          subst hT
          obtain ⟨a, ha⟩ : ∃ a, ms[pre.length] = a := ⟨_, rfl⟩
          have ham : a ∈ ms := by rw [← ha]; exact List.getElem_mem hj
          rw [ha] at hR h14
          have HTA : Hid (a.dst.size ≤ 1048576) := HXT.out a ham
          have HM1 : Hid (Met most st1 ∧ st <+: st1 ∧ bs.length = (ms.take pre.length).length ∧ (cnt ≤ 262144 → cnt + (ms.take pre.length).length ≤ 262144)) := stepAs_met HI.out.met (fun a ha => HXT.out a (List.mem_of_mem_take ha)) hs1
          have HL1 : Hid (st1.length ≤ 20000) := by
            have h3 := HM1.out.1.len
            show _ ≤ _
            omega
          have HR := Lib.hid hR
          have HMK := Lib.hid hmk
          have HS1 := Lib.hid hs1
          have HAA := Lib.hid ha
          have H14 := Lib.hid h14
          have f0 := h14.cell 0
          have f5 := h14.cell 5
          have f6 := h14.cell 6
          have f7 := h14.cell 7
          have f8 := h14.cell 8
          simp only [mvC, List.getElem?_cons_zero, List.getElem?_cons_succ] at f0 f5 f6 f7 f8
          have hvr := oneArc.one hR.loose.arc1
          obtain ⟨a1, n1, k1, a2, n2, k2, rfl, rfl⟩ := arc_forms hR.loose.arc1
          clear hR hmk hs1 ha h14
          obtain ⟨W1, hW1⟩ : ∃ W1, W1 = W.alloc (.cells #[.int .i64 a.proc, .int .i64 0, .int .i64 a.bad, .slice a1 n1 k1, .slice a2 n2 k2, .int .u64 (a.turns : Int)] 55) := ⟨_, rfl⟩
          have hb1 : Below W.heap.size W W1 := by rw [hW1]; exact (Below.refl _ _).alloc (Nat.le_refl _) _
          obtain ⟨hR1, h15, ht1⟩ := HR.out.lay 0 hW1
          have HR1 := Lib.hid hR1
          have H15 := Lib.hid h15
          have HT1 := Lib.hid ht1
          have H141 := Lib.hid (H14.out.belowAll hb1)
          have HB0 : Hid (Below b3 w W) := HR.out.ex.below
          clear hR1 h15 ht1
          have HVA : Hid (va.ownBlock ≠ some W.heap.size) := by
            obtain ⟨fa, q1, _⟩ := HR.out.row
            intro he
            exact Nat.lt_irrefl _ (owns_lt q1 _ he)
          have HX : Hid (w9.heap.size ≤ W.heap.size) := HR.out.ge.2.2
          have g4 := (H14.out.belowAll hb1).cell 4
          have g5 := (H14.out.belowAll hb1).cell 5
          have g3 := HR1.out.ex.most_.cell 0
          have g7 := HR1.out.ex.states.cell 0
          have g8 := HR1.out.ex.maps.cell 0
          simp only [mvC, List.getElem?_cons_zero, List.getElem?_cons_succ] at g3 g4 g5 g7 g8
          rw [hW1] at g3 g4 g5 g7 g8
          have HW1 := Lib.hid hW1
          obtain ⟨av1, cv1, rfl, hcv1, _⟩ := owns_form HR1.out.ex.row
          clear hW1 H14 hb1
          refine wpIn_block ?_
          refine wpIn_seq2 (fun a' w' => (∃ (st2 : List ByteArray) (b : PArc) (vs2 vr vw : Value), stepA most st1 a = some (st2, b) ∧ RndV b3 w9.heap.size b13 W.heap.size (fun q => PN q ∧ q < wr.heap.size) ⟨b3, b4, b5, b6, b7, b8, b9, b10, m⟩ w most st2 out (cnt + pre.length) x bs vs2 vo va [b] (arcC b vr vw) w' ∧ Holds w' W.heap.size 55 (arcC b vr vw) ∧ Turns w9.heap.size W w') ∧ ∃ u : Nat → Value, a' = { tmps := #[.iface I.tid I.dyn, .int .i64 (most : Int), undef, .pointer (some ⟨b3, 0, none⟩), .pointer (some ⟨b4, 0, none⟩), .pointer (some ⟨b5, 0, none⟩), .pointer (some ⟨b6, 0, none⟩), .pointer (some ⟨b7, 0, none⟩), .pointer (some ⟨b8, 0, none⟩), .pointer (some ⟨b9, 0, none⟩), .pointer (some ⟨b10, 0, none⟩), .int .i64 (i : Int), .pointer (some ⟨b12, 0, none⟩), .pointer (some ⟨b13, 0, none⟩), .pointer (some ⟨b14, 0, none⟩), .pointer (some ⟨W.heap.size, 0, none⟩), u 16, u 17, .iface I.tid I.dyn, .bool false, .bool false, .int .i64 (most : Int), .bool false, .bool false, .bool false, .int .i64 (most : Int), .bool false, .bool false, undef, .iface I.tid I.dyn, .string s0, .slice (some ⟨g0, 0, none⟩) 1 1, .map (some m), .slice (some ⟨g0, 0, none⟩) 1 1, .pointer (some ⟨g0, 0, none⟩), .string s0, .map (some m), .int .i64 (i : Int), .slice (some ⟨gs, 0, none⟩) sl cv, .int .i64 (sl : Int), .bool true, u 41, u 42, u 43, u 44, u 45, u 46, u 47, u 48, u 49, u 50, u 51, u 52, u 53, u 54, u 55, u 56, u 57, u 58, u 59, u 60, u 61, u 62, u 63, u 64, u 65, u 66, u 67, u 68, u 69, u 70, u 71, u 72, u 73, u 74, u 75, u 76, u 77, u 78, u 79, u 80, u 81, u 82, u 83, u 84, u 85, u 86, u 87, u 88, u 89, u 90, u 91, u 92, u 93, u 94, u 95, u 96, u 97, u 98, u 99, u 100, u 101, u 102, u 103, u 104, u 105, u 106, u 107, u 108, u 109, u 110, u 111, u 112, u 113, u 114, u 115, u 116, u 117, u 118, u 119, u 120, u 121, u 122, u 123, u 124, u 125, u 126, u 127, u 128, u 129], defers := [] }) ?_ ?_
          · by_cases hbad : a.bad = 0
            · have d0 : (a.bad == 0) = true := by simpa using hbad
              have HNU := Lib.hid HR1.out.ex.num
              rw [HW1.out] at HNU
              have HBD := Lib.hid hbad
              clear hbad
              gi_wp2_with (refine wpListIn_look_num (off := 0) rfl _ _ rfl m st1.length a.dst st1 rfl rfl HNU.out HTA.out ?_)
              intro c hc
              by_cases hin : a.dst ∈ st1
              · have HC := Lib.hid (hc hin)
                have HIN := Lib.hid hin
                have d1 : decide (a.dst ∈ st1) = true := decide_eq_true hin
                rw [d1]
                clear hin hc
                gi_wp2_with fail
                obtain ⟨r1, r2, r3⟩ := HR.out.lay c rfl
                exact ⟨⟨st1, a.goes c, _, .slice a1 n1 k1, .slice a2 n2 k2, by rw [HC.out]; exact stepA_old HBD.out HIN.out, r1, r2, r3⟩, act_of rfl⟩
              · have d1 : decide (a.dst ∈ st1) = false := decide_eq_false hin
                rw [d1]
                have HIN := Lib.hid hin
                clear hin hc
                by_cases hm : st1.length = most
                · have d3 : ((st1.length : Int) == (most : Int)) = true := by rw [hm]; exact beq_self_eq_true _
                  have HM := Lib.hid hm
                  have HH4 := Lib.hid HR1.out.ex.r4
                  have HH5 := Lib.hid HR1.out.ex.r5
                  have HH6 := Lib.hid HR1.out.ex.r6
                  have H4 := HH4
                  rw [HW1.out] at H4
                  clear hm
                  gi_wp2_with (refine stop_store 24 _ _ rfl ?_)
                  refine Stop.mk ?_
                  refine wpListIn_storeB rfl 24 _ _ rfl b4 0 [.slice none 0 0] rfl rfl H4.out (Nat.le_of_ble_eq_true rfl) sz_NetE rfl ?_
                  refine Named.mk (fun W2 hW2 => ?_)
                  rw [← HW1.out] at hW2
                  have hf2 : Fr (fun q => q = b4) W1 W2 := by rw [hW2]; exact Fr.setRX b4 _ 0 _
                  have H4 : Hid (Holds W2 b4 24 [.slice none 0 0]) := HH4.out.stored hW2 (Nat.le_of_ble_eq_true rfl)
                  have H5 := Lib.hid (hf2.holds HH5.out (HH5.out.ne_of_type HH4.out (by decide)))
                  have H6 := Lib.hid (hf2.holds HH6.out (HH6.out.ne_of_type HH4.out (by decide)))
                  have HT2 := Lib.hid (HT1.out.trans (Turns.of hf2 fun q hq => .inl (by rw [hq]; exact ⟨_, _, HH4.out, safe_not (by decide) (by decide) (.inl (by decide))⟩)))
                  have HB2 : Hid (Below b3 w W2) := HR1.out.ex.below.trans (hf2.to_below (Nat.le_trans hbw HR1.out.ex.below.size) fun q hq he => by have := HR1.out.ex.ge.2.1; dsimp only at this; omega)
                  clear hW2 hf2 HH4 HH5 HH6 HNU HW1 HR HR1 H15 HT1 H141 g3 g4 g5 g7 g8
                  gi_wp2_with (refine wpListIn_store1 rfl 46 _ _ rfl b5 0 (.slice none 0 0) rfl rfl H5.out (Nat.le_of_ble_eq_true rfl) sz_Strs rfl rfl ?_)
                  refine Named.mk (fun W3 hW3 => ?_)
                  have hf3 : Fr (fun q => q = b5) W2 W3 := by rw [hW3]; exact Fr.setRX b5 _ 0 _
                  have H43 := Lib.hid (hf3.holds H4.out (H4.out.ne_of_type H5.out (by decide)))
                  have H53 : Hid (Holds W3 b5 46 [.slice none 0 0]) := H5.out.stored hW3 (Nat.le_of_ble_eq_true rfl)
                  have H63 := Lib.hid (hf3.holds H6.out (H6.out.ne_of_type H5.out (by decide)))
                  have HT3 := Lib.hid (HT2.out.trans (Turns.of hf3 fun q hq => .inl (by rw [hq]; exact ⟨_, _, H5.out, safe_not (by decide) (by decide) (.inl (by decide))⟩)))
                  have HB3' : Hid (Below b3 w W3) := HB2.out.trans (hf3.to_below (Nat.le_trans hbw HB2.out.size) fun q hq he => by have := HE.out.ge.2.2.1; dsimp only at this; omega)
                  clear hW3 hf3 H4 H5 H6 HT2 HB2
                  gi_wp2_with (refine wpListIn_store1 rfl 28 _ _ rfl b6 0 (.int .i64 131) rfl rfl H63.out (Nat.le_of_ble_eq_true rfl) sz_Errno rfl rfl ?_)
                  refine Named.mk (fun W4 hW4 => ?_)
                  have hf4 : Fr (fun q => q = b6) W3 W4 := by rw [hW4]; exact Fr.setRX b6 _ 0 _
                  have H44 := Lib.hid (hf4.holds H43.out (H43.out.ne_of_type H63.out (by decide)))
                  have H54 := Lib.hid (hf4.holds H53.out (H53.out.ne_of_type H63.out (by decide)))
                  have H64 : Hid (Holds W4 b6 28 [.int .i64 131]) := H63.out.stored hW4 (Nat.le_of_ble_eq_true rfl)
                  have HT4 := Lib.hid (HT3.out.trans (Turns.of hf4 fun q hq => .inl (by rw [hq]; exact ⟨_, _, H63.out, safe_not (by decide) (by decide) (.inl (by decide))⟩)))
                  have HB4 : Hid (Below b3 w W4) := HB3'.out.trans (hf4.to_below (Nat.le_trans hbw HB3'.out.size) fun q hq he => by have := HE.out.ge.2.2.2.1; dsimp only at this; omega)
                  clear hW4 hf4 H43 H53 H63 HT3 HB3'
                  gi_wp2
                  refine ⟨HT4.out.keeps, rfl, ?_, HB4.out, H44.out, H54.out, H64.out, fun D hD => ⟨(HMK.out D hD).1, HT4.out.marks D (HMK.out D hD).2⟩⟩
                  have hsn := stepAs_snoc most (ms.take pre.length) a cnt st
                  rw [HS1.out] at hsn
                  have hst : stepA most st1 a = none := by unfold stepA; rw [if_pos HBD.out, if_neg HIN.out, if_pos HM.out]
                  simp only [hst] at hsn
                  rw [← List.take_append_drop (pre.length + 1) ms]
                  refine stepAs_app_none most _ _ _ _ ?_
                  rw [List.take_add_one, List.getElem?_eq_getElem hj, HAA.out]
                  exact hsn
                · have d3 : ((st1.length : Int) == (most : Int)) = false := by rw [Bool.eq_false_iff]; intro h3; have h4 := eq_of_beq h3; exact hm (by omega)
                  have HM := Lib.hid hm
                  clear hm
                  gi_wp2_with (refine wpListIn_insert_num (off := 0) rfl _ _ _ (.inr rfl) m st1.length a.dst st1 rfl rfl rfl HNU.out (by have := HL1.out; unfold maxLen; omega) HTA.out HIN.out (by have := HL1.out; omega) ?_)
                  intro W2 hn2 hg2
                  rw [← HW1.out] at hg2
                  have hf2 : Fr (fun q => q = m) W1 W2 := (Fr.refl _ W1).grown hg2 fun q hq _ => by injection hq with hq; exact hq.symm
                  have hmne : ∀ {g : Nat} {t : TypeId} {cs : List Value}, Holds W1 g t cs → g ≠ m := fun hh => Ne.symm (HR1.out.ex.num.ne hh)
                  have H72 := Lib.hid (hf2.holds HR1.out.ex.states (hmne HR1.out.ex.states))
                  have H142 := Lib.hid (hf2.holds H141.out (hmne H141.out))
                  have HO2 := Lib.hid (hf2.owns HR1.out.ex.row fun g hg he => by
                    obtain ⟨cs, hh⟩ := owns_holds HR1.out.ex.row hg
                    exact hmne hh he)
                  have hz := HR1.out.ge
                  have HSZ2 : Hid (b3 ≤ W2.heap.size) := Nat.le_trans (Nat.le_trans hz.1 (Nat.le_of_lt hz.2.1)) (Nat.le_trans hz.2.2 hg2.size)
                  have e7 := H72.out.cell 0
                  have e4 := H142.out.cell 4
                  simp only [mvC, List.getElem?_cons_zero, List.getElem?_cons_succ] at e4 e7
                  have HN2 := Lib.hid hn2
                  have HG2 := Lib.hid hg2
                  obtain ⟨i0, z0, hi0, hz0, hz1, hz2, hz3⟩ := info_of info_str
                  clear hn2 hg2 hf2 hmne hz HNU g3 g4 g5 g7 g8
                  gi_wp2_with (refine stop_call { callee := .builtin .append, args := #[.tmp 104, .tmp 107], argTypes := #[46, 46] } rfl ?_)
                  refine Stop.mk ?_
                  refine wpListIn_append_own_at _ rfl (.tmp 104) (.tmp 107) _ rfl b3 9 i0 z0 1 16 Try.underlying46 hi0 hz0 hz1 hz2 hz3 (by omega) (.slice av1 st1.length cv1) st1.length _ rfl (owns_below HO2.out ((Below.refl _ _).alloc (Nat.le_refl _) _)) ⟨W2.heap.size, 0, none⟩ 1 1 [.string a.dst] rfl rfl ?c1 ?c2 ?c3 ?c4 ?c5 ?_
                  case c1 => exact cell_one_new _ _ _
                  case c2 => simp [Value.oneCell']
                  case c3 => have := HL1.out; unfold maxLen; omega
                  case c4 => have := HL1.out; omega
                  case c5 => have := HSZ2.out; simp; omega
                  intro v' W4 hown hgrow _ hblk
                  obtain ⟨av2, cv2, rfl, hcv2, _⟩ := owns_form hown
                  have H74 := Lib.hid ((H72.out.alloc _).of_eq (hgrow.block _ (H72.out.alloc (.cells #[.string a.dst] 9)).lt fun he => owns_ne_holds HO2.out H72.out (by decide) he.symm))
                  have HOW := Lib.hid hown
                  have HGW := Lib.hid hgrow
                  have HBK := Lib.hid hblk
                  clear hown hgrow hblk H72 H142 e4 e7
                  gi_wp2_with (refine wpListIn_store1 rfl 46 _ _ rfl b7 0 (.slice av2 (st1.length + 1) cv2) rfl rfl H74.out (Nat.le_of_ble_eq_true rfl) sz_Strs rfl rfl ?_)
                  refine Named.mk (fun W5 hW5 => ?_)
                  obtain ⟨r1, r2, r3⟩ := HR1.out.grow HN2.out HG2.out HOW.out HGW.out HBK.out hW5
                  have HR5 := Lib.hid r1
                  have HT5 := Lib.hid (HT1.out.trans r2)
                  have H155 := Lib.hid (r3.holds H15.out fun hh => by
                    rcases hh with hh | hh | hh
                    · exact HR1.out.ex.num.ne H15.out hh.symm
                    · exact H15.out.ne_of_type HR1.out.ex.states (by decide) hh
                    · exact owns_ne_holds HR1.out.ex.row H15.out (by decide) hh)
                  have hst := stepA_new (most := most) HBD.out HIN.out HM.out
                  have HST := Lib.hid hst
                  clear hW5 r1 r2 r3 HN2 HG2 HOW HGW HBK H74 HO2 HR1 HR HT1 H15 H141 HW1 hst HSZ2
                  gi_wp2_with (refine wpListIn_store1 rfl 3 _ _ rfl W.heap.size 1 (.int .i64 (st1.length : Int)) rfl rfl H155.out (Nat.le_of_ble_eq_true rfl) sz_Int rfl rfl ?_)
                  refine Named.mk (fun W6 hW6 => ?_)
                  have hf6 : Fr (fun q => q = W.heap.size) W5 W6 := by rw [hW6]; exact Fr.setRX _ _ 1 _
                  obtain ⟨q1, q2⟩ := HR5.out.dest HX.out H155.out (by decide) (.inr (fun he => by
                    exact HVA.out he)) ⟨by decide, by decide, by decide⟩ hf6
                  have HR6 := Lib.hid (q1.loosen (st1.length : Int))
                  have HT6 := Lib.hid (HT5.out.trans q2)
                  have H156 : Hid (Holds W6 W.heap.size 55 (arcC (a.goes (st1.length : Int)) (.slice a1 n1 k1) (.slice a2 n2 k2))) := H155.out.stored hW6 (Nat.le_of_ble_eq_true rfl)
                  clear hW6 hf6 q1 q2 HR5 HT5 H155
                  gi_wp2
                  exact ⟨⟨st1 ++ [a.dst], a.goes (st1.length : Int), _, .slice a1 n1 k1, .slice a2 n2 k2, HST.out, HR6.out, H156.out, HT6.out⟩, act_of rfl⟩
            · have d0 : (a.bad == 0) = false := by simpa using hbad
              have HBD := Lib.hid hbad
              clear hbad
              gi_wp2_with fail
              rw [← HW1.out]
              exact ⟨⟨st1, a.goes 0, _, _, _, stepA_bad HBD.out, HR1.out, H15.out, HT1.out⟩, act_of rfl⟩
          · rintro a' w' ⟨⟨st2, b, vs2, vr, vw, hs2, hR2, h15, ht2⟩, u2, rfl⟩
            dsimp only
            obtain ⟨n0, hn0⟩ : ∃ n, cnt + pre.length = n := ⟨_, rfl⟩
            rw [hn0] at hR2
            obtain ⟨a3, n3, k3, a4, n4, k4, rfl, rfl⟩ := arc_forms hR2.loose.arc1
            have HN0 := Lib.hid hn0
            have HCA : Hid (n0 ≤ 262144) := by
              have h3 := HM1.out.2.2.2 HI.out.cnt_
              rw [List.length_take] at h3
              show _ ≤ _
              omega
            have HBL : Hid (bs.length = pre.length) := by
              have h3 := HM1.out.2.2.1
              rw [List.length_take] at h3
              show _ = _
              omega
            have hwn : IntKind.i64.wrap ((n0 : Int) + 1) = (n0 : Int) + 1 := by rw [IntKind.wrap_i64]; have := HCA.out; omega
            have g10 := hR2.ex.cnt_.cell 0
            simp only [List.getElem?_cons_zero] at g10
            have H10 := Lib.hid hR2.ex.cnt_
            have HR2 := Lib.hid hR2
            have HT2 := Lib.hid ht2
            have H152 := Lib.hid h15
            have HS2 := Lib.hid hs2
            clear hR2 h15 ht2 hn0 hs2 g3 g4 g5 g7 g8 HR HR1 H15 HT1 H141 HW1
            gi_wp2_with (refine wpListIn_store1 rfl 3 _ _ rfl b10 0 (.int .i64 ((n0 : Int) + 1)) rfl rfl H10.out (Nat.le_of_ble_eq_true rfl) sz_Int rfl rfl ?_)
            refine Named.mk (fun W7 hW7 => ?_)
            have hf7 : Fr (fun q => q = b10) w' W7 := by rw [hW7]; exact Fr.setRX _ _ 0 _
            have h107 : Holds W7 b10 3 [.int .i64 ((n0 : Int) + 1)] := H10.out.stored hW7 (Nat.le_of_ble_eq_true rfl)
            obtain ⟨q1, q2⟩ := HR2.out.count (c' := n0 + 1) hf7 (by rw [Int.natCast_add]; exact h107)
            have HR7 := Lib.hid q1
            have HT7 := Lib.hid (HT2.out.trans q2)
            have h157 := hf7.holds H152.out (H152.out.ne_of_type H10.out (by decide))
            have g10 := h107.cell 0
            by_cases hcb : 262144 < n0 + 1
            · have d4 : decide ((262144 : Int) < (n0 : Int) + 1) = true := decide_eq_true (by omega)
              have HH4 := Lib.hid HR7.out.ex.r4
              have HH5 := Lib.hid HR7.out.ex.r5
              have HH6 := Lib.hid HR7.out.ex.r6
              have HBB : Hid (Below b3 w W7) := HR7.out.ex.below
              have HGG := Lib.hid HR7.out.ex.ge
              have HCB := Lib.hid hcb
              clear hcb hf7 h107 q1 q2 h157 HR2 HT2 H152 H10 HR7 hW7
              gi_wp2_with (refine stop_store 24 _ _ rfl ?_)
              refine Stop.mk ?_
              refine wpListIn_storeB rfl 24 _ _ rfl b4 0 [.slice none 0 0] rfl rfl HH4.out (Nat.le_of_ble_eq_true rfl) sz_NetE rfl ?_
              refine Named.mk (fun W2 hW2 => ?_)
              have hf2 : Fr (fun q => q = b4) W7 W2 := by rw [hW2]; exact Fr.setRX b4 _ 0 _
              have H4 : Hid (Holds W2 b4 24 [.slice none 0 0]) := HH4.out.stored hW2 (Nat.le_of_ble_eq_true rfl)
              have H5 := Lib.hid (hf2.holds HH5.out (HH5.out.ne_of_type HH4.out (by decide)))
              have H6 := Lib.hid (hf2.holds HH6.out (HH6.out.ne_of_type HH4.out (by decide)))
              have HT2 := Lib.hid (HT7.out.trans (Turns.of hf2 fun q hq => .inl (by rw [hq]; exact ⟨_, _, HH4.out, safe_not (by decide) (by decide) (.inl (by decide))⟩)))
              have HB2 : Hid (Below b3 w W2) := HBB.out.trans (hf2.to_below (Nat.le_trans hbw HBB.out.size) fun q hq he => by have h9 := HGG.out.2.1; (try dsimp only at h9); omega)
              clear hW2 hf2 HH4 HH5 HH6 HT7 HBB g10
              gi_wp2_with (refine wpListIn_store1 rfl 46 _ _ rfl b5 0 (.slice none 0 0) rfl rfl H5.out (Nat.le_of_ble_eq_true rfl) sz_Strs rfl rfl ?_)
              refine Named.mk (fun W3 hW3 => ?_)
              have hf3 : Fr (fun q => q = b5) W2 W3 := by rw [hW3]; exact Fr.setRX b5 _ 0 _
              have H43 := Lib.hid (hf3.holds H4.out (H4.out.ne_of_type H5.out (by decide)))
              have H53 : Hid (Holds W3 b5 46 [.slice none 0 0]) := H5.out.stored hW3 (Nat.le_of_ble_eq_true rfl)
              have H63 := Lib.hid (hf3.holds H6.out (H6.out.ne_of_type H5.out (by decide)))
              have HT3 := Lib.hid (HT2.out.trans (Turns.of hf3 fun q hq => .inl (by rw [hq]; exact ⟨_, _, H5.out, safe_not (by decide) (by decide) (.inl (by decide))⟩)))
              have HB3' : Hid (Below b3 w W3) := HB2.out.trans (hf3.to_below (Nat.le_trans hbw HB2.out.size) fun q hq he => by have := HE.out.ge.2.2.1; dsimp only at this; omega)
              clear hW3 hf3 H4 H5 H6 HT2 HB2
              gi_wp2_with (refine wpListIn_store1 rfl 28 _ _ rfl b6 0 (.int .i64 131) rfl rfl H63.out (Nat.le_of_ble_eq_true rfl) sz_Errno rfl rfl ?_)
              refine Named.mk (fun W4 hW4 => ?_)
              have hf4 : Fr (fun q => q = b6) W3 W4 := by rw [hW4]; exact Fr.setRX b6 _ 0 _
              have H44 := Lib.hid (hf4.holds H43.out (H43.out.ne_of_type H63.out (by decide)))
              have H54 := Lib.hid (hf4.holds H53.out (H53.out.ne_of_type H63.out (by decide)))
              have H64 : Hid (Holds W4 b6 28 [.int .i64 131]) := H63.out.stored hW4 (Nat.le_of_ble_eq_true rfl)
              have HT4 := Lib.hid (HT3.out.trans (Turns.of hf4 fun q hq => .inl (by rw [hq]; exact ⟨_, _, H63.out, safe_not (by decide) (by decide) (.inl (by decide))⟩)))
              have HB4 : Hid (Below b3 w W4) := HB3'.out.trans (hf4.to_below (Nat.le_trans hbw HB3'.out.size) fun q hq he => by have := HE.out.ge.2.2.2.1; dsimp only at this; omega)
              clear hW4 hf4 H43 H53 H63 HT3 HB3'
              gi_wp2
              refine ⟨HT4.out.keeps, rfl, ?_, HB4.out, H44.out, H54.out, H64.out, fun D hD => ⟨(HMK.out D hD).1, HT4.out.marks D (HMK.out D hD).2⟩⟩
              have hsn := stepAs_snoc most (ms.take pre.length) a cnt st
              rw [HS1.out] at hsn
              simp only [HS2.out] at hsn
              rw [if_pos (by rw [List.length_take]; have := HCB.out; have := HN0.out; omega)] at hsn
              rw [← List.take_append_drop (pre.length + 1) ms]
              refine stepAs_app_none most _ _ _ _ ?_
              rw [List.take_add_one, List.getElem?_eq_getElem hj, HAA.out]
              exact hsn
            · have HCB : Hid (n0 + 1 ≤ 262144) := by show _ ≤ _; omega
              have d4 : decide ((262144 : Int) < (n0 : Int) + 1) = false := decide_eq_false (by omega)
              clear hcb
              obtain ⟨fa, hrow, hfa⟩ := q1.row
              obtain ⟨av3, cv3, rfl, hcv3, _⟩ := owns_form hrow
              have g13 := HR7.out.node.cell 0
              simp only [nodeC, List.getElem?_cons_zero] at g10 g13
              have HRG := Lib.hid (h157.range (i := 0) (n := 6) (xs := [.int .i64 b.proc, .int .i64 b.to, .int .i64 b.bad, .slice a3 n3 k3, .slice a4 n4 k4, .int .u64 (b.turns : Int)]) rfl)
              have HOW := Lib.hid hrow
              have HFA := Lib.hid hfa
              have hone := oneArc.one HR7.out.loose.arc1
              have HONE := Lib.hid hone
              obtain ⟨i0, z0, hi0, hz0, hz1, hz2, hz3⟩ := info_of info_arc
              clear hW7 hf7 h107 q1 q2 h157 hrow hfa HR2 HT2 H152 H10 hone
              gi_wp2_with (first | (refine wpListIn_load_mid rfl 55 _ rfl W.heap.size 0 rfl [.int .i64 b.proc, .int .i64 b.to, .int .i64 b.bad, .slice a3 n3 k3, .slice a4 n4 k4, .int .u64 (b.turns : Int)] _ HRG.out Try.underlying55 rfl sz_Arc ?_) | (refine stop_call { callee := .builtin .append, args := #[.tmp 117, .tmp 119], argTypes := #[51, 51] } rfl ?_))
              refine Stop.mk ?_
              refine wpListIn_append_own_at _ rfl (.tmp 117) (.tmp 119) _ rfl w9.heap.size 55 i0 z0 6 80 Try.underlying51 hi0 hz0 hz1 hz2 hz3 (by omega) (.slice av3 bs.length cv3) bs.length fa rfl (owns_below HOW.out ((Below.refl _ _).alloc (Nat.le_refl _) _)) ⟨W7.heap.size, 0, none⟩ 1 1 (arcC b (.slice a3 n3 k3) (.slice a4 n4 k4)) rfl rfl ?c1 ?c2 ?c3 ?c4 ?c5 ?_
              case c1 => exact fun j u hu => by rw [Addr.add_lit, Nat.zero_add]; exact ((Holds.new W7 55 (arcC b (.slice a3 n3 k3) (.slice a4 n4 k4)).toArray).cell j).trans hu
              case c2 => exact List.all_eq_true.1 HONE.out
              case c3 => have := HCB.out; have := HBL.out; have := HN0.out; unfold maxLen; omega
              case c4 => have := HCB.out; have := HBL.out; have := HN0.out; omega
              case c5 => have := HR7.out.ge.2.2; simp; omega
              intro v' W8 hown hgrow _ hblk
              obtain ⟨av4, cv4, rfl, hcv4, _⟩ := owns_form hown
              have H138 := Lib.hid ((HR7.out.node.alloc _).of_eq (hgrow.block _ (HR7.out.node.alloc (.cells (arcC b (.slice a3 n3 k3) (.slice a4 n4 k4)).toArray 55)).lt fun he => owns_ne_holds HOW.out HR7.out.node (by decide) he.symm))
              have HOX := Lib.hid hown
              have HGW := Lib.hid hgrow
              have HBK := Lib.hid hblk
              clear hown hgrow hblk g10 g13 HRG
              gi_wp2_with (refine wpListIn_store1 rfl 51 _ _ rfl b13 0 (.slice av4 (bs.length + 1) cv4) rfl rfl H138.out (Nat.le_of_ble_eq_true rfl) sz_Arcs rfl rfl ?_)
              refine Named.mk (fun WZ hWZ => ?_)
              obtain ⟨r1, r2⟩ := HR7.out.done HFA.out HOX.out HGW.out HBK.out hWZ
              have HTZ := Lib.hid (HT7.out.trans r2)
              have HRZ : Hid (RngI b3 w9.heap.size b13 (fun q => PN q ∧ q < wr.heap.size) ⟨b3, b4, b5, b6, b7, b8, b9, b10, m⟩ w most st out cnt x ms vo ds (pre.length + 1) WZ) := by
                refine ⟨st2, bs ++ [b], vs2, .slice av4 (bs.length + 1) cv4, ?_, ?_, hj, fun D hD => ⟨(HMK.out D hD).1, HTZ.out.marks D (HMK.out D hD).2⟩⟩
                · rw [List.take_add_one, List.getElem?_eq_getElem hj, HAA.out]
                  have h3 := stepAs_snoc most (ms.take pre.length) a cnt st
                  rw [HS1.out] at h3
                  simp only [HS2.out] at h3
                  rw [if_neg (by rw [List.length_take]; have := HCB.out; have := HN0.out; omega)] at h3
                  exact h3
                · have h3 := r1.disarm
                  rw [show n0 + 1 = cnt + (pre.length + 1) by have := HN0.out; omega] at h3
                  exact h3
              have HBZ : Hid (Below b3 W WZ) := below_two HB0.out r1.ex.below HTZ.out.keeps.size
              have HLE : Hid ((pre ++ [y]).length = pre.length + 1) := by show _ = _; rw [List.length_append]; rfl
              clear hWZ r1 r2 HOX HGW HBK H138 HR7 HT7
              gi_wp2
              refine ⟨HTZ.out.keeps, ⟨HBZ.out, HTZ.out.safe⟩, ?_⟩
              have h3 := HRZ.out
              rw [← HLE.out] at h3
              exact h3
        case done =>
          rintro D xs W hD hlen hi hK
          subst hT
          obtain ⟨st1, bs, vs1, va, hs1, hR, _, hmk⟩ := hi
          rw [hlen] at hs1 hR
          rw [List.take_length] at hs1
          obtain ⟨hmet, hpre, -, hcnt⟩ := stepAs_met HI.out.met HXT.out hs1
          have HS5 := Lib.hid hs1
          clear hs1 hlen
          obtain ⟨fo, n1, n2⟩ := hR.ex.nodes
          obtain ⟨avo, cvo, rfl, hcvo, _⟩ := owns_form n1
          have g9 := hR.ex.outs.cell 0
          simp only [List.getElem?_cons_zero] at g9
          obtain ⟨fa5, k5, _⟩ := hR.row
          obtain ⟨av5, cv5, rfl, hcv5, _⟩ := owns_form k5
          have hone : (nodeC (.slice av5 bs.length cv5) x).all (·.oneCell') = true := by simp [nodeC, Value.oneCell']
          have HRG := Lib.hid (hR.node.range (i := 0) (n := 5) (xs := [.slice av5 bs.length cv5, .int .u64 (x.props : Int), .bool x.fin, .bool x.prog, .bool x.acc]) rfl)
          have HONE := Lib.hid hone
          have HR := Lib.hid hR
          have HN1 := Lib.hid n1
          have HN2 := Lib.hid n2
          have HOL : Hid (out.length ≤ 20000) := by
            have h3 := HI.out.at_
            show _ ≤ _
            omega
          obtain ⟨i0, z0, hi0, hz0, hz1, hz2, hz3⟩ := info_of info_node
          clear hR n1 n2 hone hcvo
          gi_wp2_with (first | (refine wpListIn_load_mid rfl 53 _ rfl b13 0 rfl [.slice av5 bs.length cv5, .int .u64 (x.props : Int), .bool x.fin, .bool x.prog, .bool x.acc] _ HRG.out Try.underlying53 rfl sz_Node ?_) | (refine stop_call { callee := .builtin .append, args := #[.tmp 123, .tmp 125], argTypes := #[22, 22] } rfl ?_))
          refine Stop.mk ?_
          refine wpListIn_append_own_at _ rfl (.tmp 123) (.tmp 125) _ rfl b3 53 i0 z0 5 40 Try.underlying22 hi0 hz0 hz1 hz2 hz3 (by omega) (.slice avo out.length cvo) out.length fo rfl (owns_below HN1.out ((Below.refl _ _).alloc (Nat.le_refl _) _)) ⟨W.heap.size, 0, none⟩ 1 1 (nodeC (.slice av5 bs.length cv5) x) rfl rfl ?c1 ?c2 ?c3 ?c4 ?c5 ?_
          case c1 => exact fun j u hu => by rw [Addr.add_lit, Nat.zero_add]; exact ((Holds.new W 53 (nodeC (.slice av5 bs.length cv5) x).toArray).cell j).trans hu
          case c2 => exact List.all_eq_true.1 HONE.out
          case c3 => have := HOL.out; unfold maxLen; omega
          case c4 => have := HOL.out; omega
          case c5 => have := HR.out.ge; simp; omega
          intro v' W8 hown hgrow _ hblk
          obtain ⟨av4, cv4, rfl, hcv4, _⟩ := owns_form hown
          have H98 := Lib.hid ((HR.out.ex.outs.alloc _).of_eq (hgrow.block _ (HR.out.ex.outs.alloc (.cells (nodeC (.slice av5 bs.length cv5) x).toArray 53)).lt fun he => owns_ne_holds HN1.out HR.out.ex.outs (by decide) he.symm))
          have HOX := Lib.hid hown
          have HGW := Lib.hid hgrow
          have HBK := Lib.hid hblk
          clear hown hgrow hblk g9 HRG
          gi_wp2_with (refine wpListIn_store1 rfl 22 _ _ rfl b9 0 (.slice av4 (out.length + 1) cv4) rfl rfl H98.out (Nat.le_of_ble_eq_true rfl) sz_Nodes rfl rfl ?_)
          refine Named.mk (fun WZ hWZ => ?_)
          obtain ⟨r1, r2⟩ := HR.out.close HN2.out HN1.out HOX.out HGW.out HBK.out hWZ
          have HEZ := Lib.hid r1
          have HIZ : Hid (ExI S most b3 (D :: ds) (i + 1) st1 (out ++ [{ x with arcs := bs }]) (cnt + ms.length) WZ) := by
            have hnx := HI.out.next (ds' := D :: ds) (W' := WZ) hilst HK.out (by rw [HMS.out]; exact HS5.out) hmet hpre (by rw [HMS.out]; exact hcnt HI.out.cnt_) (by
              refine ⟨List.nodup_cons.2 ⟨fun hin => Nat.lt_irrefl _ (Nat.lt_of_lt_of_le (HDS.out D hin) hD), HI.out.marks.1⟩, fun E hE => ?_⟩
              rcases List.mem_cons.1 hE with rfl | hE
              · exact ⟨Nat.le_trans hbl hD, r2 _ hK⟩
              · exact ⟨(hmk E hE).1, r2 _ (hmk E hE).2⟩)
            rw [HMS.out, HXX.out] at hnx
            exact hnx
          clear hWZ r1 r2 HOX HGW HBK H98 HR hmet hpre hcnt
          gi_wp2
          refine ⟨⟨i + 1, st1, _, _, _, _, D :: ds, _, HIZ.out, HEZ.out, act_of rfl⟩, ?_⟩
          simp [intOf]
          omega
        case stop =>
          rintro D c pre W hD - ⟨rfl, hX⟩ hK
          subst hT
          have HXX2 := Lib.hid hX
          have HK2 := Lib.hid hK
          clear hX hK
          gi_wp2
          have hX := HXX2.out
          refine ex_end (ds := D :: ds) hX.2.1 hbw hX.2.2.1 hX.2.2.2.1 hX.2.2.2.2.1 rfl rfl rfl ⟨List.nodup_cons.2 ⟨fun hin => Nat.lt_irrefl _ (Nat.lt_of_lt_of_le (HDS.out D hin) hD), HI.out.marks.1⟩, fun E hE => ?_⟩ fun w' hb' hf' hF' => ?_
          · rcases List.mem_cons.1 hE with rfl | hE
            · exact ⟨Nat.le_trans hbl hD, HK2.out⟩
            · exact hX.2.2.2.2.2 E hE
          · have h3 := HI.out.none hilst HK.out (by rw [HMS.out]; exact hX.1)
            rw [HSB.out, HRES.out] at h3
            subst h3
            exact ⟨by rw [HB3.out]; exact hb', rfl⟩
  · obtain ⟨fo, n1, n2⟩ := HE.out.nodes
    obtain ⟨avo, cvo, rfl, hcvo, _⟩ := owns_form n1
    have HHE := Lib.hid HE.out
    have hbw : b3 ≤ w.heap.size := Nat.le_of_eq HB3.out.symm
    have HNE : Hid (¬ (b9 = b4 ∨ b9 = b5 ∨ b9 = b6) ∧ ¬ (b7 = b4 ∨ b7 = b5 ∨ b7 = b6)) := by
      have q1 := HHE.out.ne
      have q2 : b9 ≠ b5 := HHE.out.outs.ne_of_type HHE.out.r5 (by decide)
      have q3 : b9 ≠ b6 := HHE.out.outs.ne_of_type HHE.out.r6 (by decide)
      have q4 : b7 ≠ b4 := HHE.out.states.ne_of_type HHE.out.r4 (by decide)
      have q5 : b7 ≠ b6 := HHE.out.states.ne_of_type HHE.out.r6 (by decide)
      dsimp only at q1
      show _ ∧ _
      omega
    have HN3 : Hid (b4 ≠ b5 ∧ b4 ≠ b6 ∧ b5 ≠ b4 ∧ b5 ≠ b6 ∧ b6 ≠ b4 ∧ b6 ≠ b5) := by
      have q1 : b4 ≠ b5 := HHE.out.r4.ne_of_type HHE.out.r5 (by decide)
      have q2 : b4 ≠ b6 := HHE.out.r4.ne_of_type HHE.out.r6 (by decide)
      have q3 : b5 ≠ b6 := HHE.out.r5.ne_of_type HHE.out.r6 (by decide)
      exact ⟨q1, q2, Ne.symm q1, q3, Ne.symm q2, Ne.symm q3⟩
    have hd5 : ¬ (i : Int) < (sl : Int) := by omega
    dsimp only
    gi_wp2
    refine wpIn_wide.2 ?_
    refine wp_region_rho (fun (r : Unit) j => ([(.agg #[.slice avo out.length cvo]), (.slice av st.length cv), (undef), (undef), (undef)] : List Value).getD j undef) (fun _ L w2 => Fr (fun q => q = b4 ∨ q = b5 ∨ q = b6) wr w2 ∧ Holds w2 b4 24 [if L.getD 2 false then .slice avo out.length cvo else .slice none 0 0] ∧ Holds w2 b5 46 [if L.getD 3 false then .slice av st.length cv else .slice none 0 0] ∧ Holds w2 b6 28 [.int .i64 0]) [(0, 128), (1, 129)] 130 rfl (by kernel_rfl) (by kernel_rfl) (by kernel_rfl) () ⟨(Fr.refl _ wr).drew, by simp; exact HHE.out.r4, by simp; exact HHE.out.r5, HHE.out.r6⟩ (fun i hi => ?_) (fun r w9 hW9 => ?_)
    · have hi2 : i < 5 := hi
      clear hi
      have hi3 : i = 0 ∨ i = 1 ∨ i = 2 ∨ i = 3 ∨ i = 4 := by omega
      clear hi2
      rcases hi3 with rfl | rfl | rfl | rfl | rfl
      · exact RhoOp.pure rfl (fun r L b w2 hl hR hW => by
          have hh := hW.1.holds HHE.out.outs HNE.out.1
          have hlo := run_loadAt_mid (P := Try.prog) w2 b9 0 24 [.slice avo out.length cvo] _ (hh.range (n := 1) rfl) Try.underlying24 rfl sz_NetE
          have h9 : b.eval (.tmp 9) = .pointer (some ⟨b9, 0, none⟩) := (hR.old (by decide) (by kernel_rfl)).trans rfl
          simp only [Act.eval, Array.getD_eq_getD_getElem?] at h9
          show (execOp b.eval _).run _ _ = .ok (.value (.agg #[.slice avo out.length cvo])) _
          unfold execOp
          simp [Act.eval, h9, Sem.run_bind, hlo]) (fun r L w2 hs h => by
          simp only [gd_ne (L := L) (i := 0) (j := 2) (by decide), gd_ne (L := L) (i := 0) (j := 3) (by decide)]
          exact h)
      · exact RhoOp.pure rfl (fun r L b w2 hl hR hW => by
          have e : w2.cell? ⟨b7, 0, none⟩ = some (.slice av st.length cv) := (hW.1.holds HHE.out.states HNE.out.2).cell 0
          have h7 : b.eval (.tmp 7) = .pointer (some ⟨b7, 0, none⟩) := (hR.old (by decide) (by kernel_rfl)).trans rfl
          simp only [Act.eval, Array.getD_eq_getD_getElem?] at h7
          show (execOp b.eval _).run _ _ = .ok (.value (.slice av st.length cv)) _
          unfold execOp
          simp [go_sem, h7, e]) (fun r L w2 hs h => by
          simp only [gd_ne (L := L) (i := 1) (j := 2) (by decide), gd_ne (L := L) (i := 1) (j := 3) (by decide)]
          exact h)
      · exact RhoOp.store rfl rfl (fun r L b w2 hs hl hR hW => by
          have hst := storeN (P := Try.prog) (ty := 24) (xs := [.slice avo out.length cvo]) (i := 0) hW.2.1 (Nat.le_refl _) sz_NetE rfl
          have h128 : b.eval (.tmp 128) = .agg #[.slice avo out.length cvo] := hR.of (j := 0) (by decide) (by kernel_rfl)
          have h4 : b.eval (.tmp 4) = .pointer (some ⟨b4, 0, none⟩) := (hR.old (by decide) (by kernel_rfl)).trans rfl
          simp only [Act.eval, Array.getD_eq_getD_getElem?] at h128 h4
          refine ⟨(), setR w2 b4 0 [.slice avo out.length cvo], fun _ _ => rfl, ?_, ?_⟩
          · show (execOp b.eval _).run _ _ = .ok .skip _
            unfold execOp
            simp [Act.eval, h4, h128, Sem.run_bind, hst]
          · have hfz := Fr.setRX b4 [.slice avo out.length cvo] 0 w2
            refine ⟨hW.1.trans hfz (fun _ _ h => .inl h), ?_, ?_, ?_⟩
            · rw [gd_eq (by rw [hs]; decide), if_pos rfl]
              exact hW.2.1.stored rfl (Nat.le_refl _)
            · rw [gd_ne (by decide)]
              exact hfz.holds hW.2.2.1 HN3.out.2.2.1
            · exact hfz.holds hW.2.2.2 HN3.out.2.2.2.2.1)
      · exact RhoOp.store rfl rfl (fun r L b w2 hs hl hR hW => by
          have hst := store1 (P := Try.prog) (ty := 46) (v := .slice av st.length cv) (i := 0) hW.2.2.1 (Nat.le_refl _) sz_Strs rfl rfl
          have h129 : b.eval (.tmp 129) = .slice av st.length cv := hR.of (j := 1) (by decide) (by kernel_rfl)
          have h5 : b.eval (.tmp 5) = .pointer (some ⟨b5, 0, none⟩) := (hR.old (by decide) (by kernel_rfl)).trans rfl
          simp only [Act.eval, Array.getD_eq_getD_getElem?] at h129 h5
          refine ⟨(), setR w2 b5 0 [.slice av st.length cv], fun _ _ => rfl, ?_, ?_⟩
          · show (execOp b.eval _).run _ _ = .ok .skip _
            unfold execOp
            simp [Act.eval, h5, h129, Sem.run_bind, hst, setR]
          · have hfz := Fr.setRX b5 [.slice av st.length cv] 0 w2
            refine ⟨hW.1.trans hfz (fun _ _ h => .inr (.inl h)), ?_, ?_, ?_⟩
            · rw [gd_ne (by decide)]
              exact hfz.holds hW.2.1 HN3.out.1
            · rw [gd_eq (by rw [hs]; decide), if_pos rfl]
              exact hW.2.2.1.stored rfl (Nat.le_refl _)
            · exact hfz.holds hW.2.2.2 HN3.out.2.2.2.2.2)
      · exact RhoOp.store rfl rfl (fun r L b w2 hs hl hR hW => by
          have hst := store1 (P := Try.prog) (ty := 28) (v := .int .i64 0) (i := 0) hW.2.2.2 (Nat.le_refl _) sz_Errno rfl rfl
          have h6 : b.eval (.tmp 6) = .pointer (some ⟨b6, 0, none⟩) := (hR.old (by decide) (by kernel_rfl)).trans rfl
          simp only [Act.eval, Array.getD_eq_getD_getElem?] at h6
          refine ⟨(), setR w2 b6 0 [.int .i64 0], fun _ _ => rfl, ?_, ?_⟩
          · show (execOp b.eval _).run _ _ = .ok .skip _
            unfold execOp
            simp [Act.eval, h6, Sem.run_bind, hst, setR]
          · have hfz := Fr.setRX b6 [.int .i64 0] 0 w2
            refine ⟨hW.1.trans hfz (fun _ _ h => .inr (.inr h)), ?_, ?_, ?_⟩
            · rw [gd_ne (by decide)]
              exact hfz.holds hW.2.1 HN3.out.2.1
            · rw [gd_ne (by decide)]
              exact hfz.holds hW.2.2.1 HN3.out.2.2.2.1
            · exact hW.2.2.2.stored rfl (Nat.le_refl _))
    · refine puts_as (ps := [(0, 128, .agg #[.slice avo out.length cvo]), (1, 129, .slice av st.length cv)]) rfl ?_
      simp only [puts, Act.put, List.setIfInBounds_toArray, List.set_cons_zero, List.set_cons_succ]
      obtain ⟨hf, k4, k5, k6⟩ := hW9
      replace k4 : Holds w9 b4 24 [.slice avo out.length cvo] := k4
      replace k5 : Holds w9 b5 46 [.slice av st.length cv] := k5
      have hge := HHE.out.ge
      dsimp only at hge
      have HFZ := Lib.hid hf
      have HK4 := Lib.hid k4
      have HK5 := Lib.hid k5
      have HK6 := Lib.hid k6
      clear hf k4 k5 k6
      gi_wp2
      refine ex_end (ds := ds) (HHE.out.below.trans (HFZ.out.to_below (Nat.le_trans hbw HHE.out.below.size) fun q hq hor => by omega)) hbw HK4.out HK5.out HK6.out rfl rfl rfl ⟨HI.out.marks.1, fun E hE => ⟨(HI.out.marks.2 E hE).1, (HFZ.out.block E (Array.getElem?_eq_some_iff.1 (HI.out.marks.2 E hE).2).1 fun hor => ?_).trans (HI.out.marks.2 E hE).2⟩⟩ fun w' hb' hf' hF' => ?_
      · have h3 := (HI.out.marks.2 E hE).2
        rcases hor with rfl | rfl | rfl
        · have h4 := HHE.out.r4
          unfold Holds at h4
          rw [h4] at h3
          cases h3
        · have h4 := HHE.out.r5
          unfold Holds at h4
          rw [h4] at h3
          cases h3
        · have h4 := HHE.out.r6
          unfold Holds at h4
          rw [h4] at h3
          cases h3
      · have h3 := HI.out.last (by rw [HL.out]; exact hil)
        rw [HSB.out, HRES.out] at h3
        subst h3
        have hnv : NetV (fun q => b3 ≤ q ∧ q ≠ b4 ∧ q ≠ b5 ∧ q ≠ b6) wr (.slice avo out.length cvo) out := ⟨fo, RowL.of_owns2 n1 (fun g hg => by
          obtain ⟨cs, hh⟩ := owns_holds n1 hg
          exact ⟨owns_ge n1 g hg, hh.ne_of_type HHE.out.r4 (by decide), hh.ne_of_type HHE.out.r5 (by decide), hh.ne_of_type HHE.out.r6 (by decide)⟩), LsF.mono (fun _ _ => NodeF.mono fun k hk _ => (HHE.out.far k hk).1) _ n2⟩
        have hvs : RowL (fun q => b3 ≤ q ∧ q ≠ b4 ∧ q ≠ b5 ∧ q ≠ b6) wr 1 (.slice av st.length cv) st.length (st.map fun m => .string m) := RowL.of_owns2 HHE.out.row (fun g hg => by
          obtain ⟨cs, hh⟩ := owns_holds HHE.out.row hg
          exact ⟨owns_ge HHE.out.row g hg, hh.ne_of_type HHE.out.r4 (by decide), hh.ne_of_type HHE.out.r5 (by decide), hh.ne_of_type HHE.out.r6 (by decide)⟩)
        have hkp : Keep (fun q => b3 ≤ q ∧ q ≠ b4 ∧ q ≠ b5 ∧ q ≠ b6) wr w9 := fun q hq hs => HFZ.out.block q hs fun hor => by omega
        have hwd : Wide (fun q => b3 ≤ q ∧ q ≠ b4 ∧ q ≠ b5 ∧ q ≠ b6) (From w.heap.size) w' := fun q hq _ => by rw [HB3.out]; exact hq.1
        exact ⟨by rw [HB3.out]; exact hb', _, _, rfl, ((hnv.up hkp).keptF hf' hF').mono hwd, ((hvs.up hkp).keptF hf' hF').mono hwd⟩
end Go.Proofs.Ytcedenoicmpjmaa.G
