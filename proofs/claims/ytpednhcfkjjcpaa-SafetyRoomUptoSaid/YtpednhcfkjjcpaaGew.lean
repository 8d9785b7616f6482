/- The walk of the statements' explore at any system (printed by mkgew.py). -/
import Derived.Test.YtpednhcfkjjcpaaGle
import Derived.Test.YtpednhcfkjjcpaaGxp
namespace Go.Proofs.Ytpednhcfkjjcpaa.G
open Go.RowKit Go.Maps
set_option linter.unusedVariables false
set_option linter.unusedSimpArgs false
attribute [local go_sem] run_makeMap

theorem results_epl {tmps : Array Value} {w : World} {b4 : Nat} {vn : Value} (h4 : Holds w b4 24 [vn]) (t4 : tmps.getD 4 undef = .pointer (some ⟨b4, 0, none⟩)) : (results Try.f10 tmps).run Try.prog w = .ok (.tuple #[.agg #[vn], tmps.getD 5 undef, tmps.getD 6 undef]) w := by
  have e := run_loadVar_mid w b4 0 24 [vn] _ (h4.range (n := 1) rfl) Try.underlying24 rfl sz_NetE
  rw [Array.getD_eq_getD_getElem?] at t4
  simp [results, Try.f10, t4, asAddr, Sem.run_bind, e]
set_option maxHeartbeats 4000000 in
set_option maxRecDepth 100000 in
theorem explG {I : Ifc} {S : Sys} {w : World} {most : Nat} (hS : SysOk I S w) (h1 : 1 ≤ most) (h2 : most ≤ 20000) : Calls Try.prog 10 #[.iface I.tid I.dyn, .int .i64 (most : Int)] w (EplPost (exF S most 20001 0 0 [S.beg]) w) := by
  obtain ⟨res, hres⟩ : ∃ r, exF S most 20001 0 0 [S.beg] = r := ⟨_, rfl⟩
  have HRES := Lib.hid hres
  rw [hres]
  clear hres
  have m1 := hS.mB
  have m2 := hS.eB
  have HSS := Lib.hid hS
  obtain ⟨w1, hw1⟩ : ∃ W, W = w.alloc (.cells #[.slice none 0 0] 24) := ⟨_, rfl⟩
  have hb1 : Below w.heap.size w w1 := by rw [hw1]; exact (Below.refl _ _).alloc (Nat.le_refl _) _
  have H41 : Hid (Holds w1 w.heap.size 24 [.slice none 0 0]) := by rw [hw1]; exact Holds.new w 24 #[.slice none 0 0]
  have HB1 := Lib.hid hb1
  have HS0 : Hid (S.beg.size ≤ 1048576) := hS.small.beg
  have HI1 : Hid (∀ W, ExI S most w.heap.size [] 0 [S.beg] [] 0 W) := fun W => by
    refine ⟨⟨by simp, by simpa using HS0.out, by simp; omega⟩, ⟨rfl, by simp⟩, ⟨20001, by omega, ?_⟩, by omega, by simp, by simp⟩
    cases exF S most 20001 0 0 [S.beg] <;> rfl
  have HBG := Lib.hid (hS.beg w1 hb1)
  obtain ⟨s0, hs0⟩ : ∃ s, S.beg = s := ⟨_, rfl⟩
  rw [hs0] at HS0 HI1 HRES HBG
  have HSB := Lib.hid hs0
  clear hs0 hS hb1
  go_enter Try.func10, Try.ntmps10
  go_wp2_with (fail)
  rw [← hw1]
  refine HBG.out.mono ?_
  rintro e w2 ⟨rfl, hb2⟩
  have HNUM : Hid (NumV 1 ((w2.alloc (.cells #[.string s0] 9)).alloc (.map #[] 0)) (w2.heap.size + 1) 0 []) := by
    have h := World.ownsMap_made (H := Unit) (w2.alloc (.cells #[.string s0] 9)) Try.prog 9 (plainElem Try.prog 3)
    simp only [World.size_alloc] at h
    exact ⟨_, h, NumD.nil 1⟩
  go_wp2_with (refine wpList_insert_num (off := 1) rfl _ _ _ (.inr rfl) (w2.heap.size + 1) 0 s0 [] rfl rfl rfl HNUM.out (by unfold maxLen; omega) HS0.out (by simp) (by simp) ?_)
  intro w3 hnum hgr
  obtain ⟨W, hW⟩ : ∃ W, W = w3.alloc (.cells #[.slice none 0 0] 24) := ⟨_, rfl⟩
  have HE := ExL.start hw1 hb2 hnum hgr hW
  go_wp2_with (fail)
  rw [← hW]
  obtain ⟨m, hm⟩ : ∃ b, w2.heap.size + 1 = b := ⟨_, rfl⟩
  obtain ⟨b9, h9⟩ : ∃ b, w3.heap.size = b := ⟨_, rfl⟩
  obtain ⟨g0, hg0⟩ : ∃ b, w2.heap.size = b := ⟨_, rfl⟩
  obtain ⟨b4, h4⟩ : ∃ b, w.heap.size = b := ⟨_, rfl⟩
  have HB4 : Hid (w.heap.size = b4) := h4
  rw [hm, h9] at HE ⊢
  rw [hg0] at HE ⊢
  rw [h4] at HE ⊢
  have HE0 := Lib.hid HE
  have HI0 : Hid (ExI S most b4 [] 0 [s0] [] 0 W) := by rw [← HB4.out]; exact HI1.out W
  clear HI1 hw1 hb2 hnum hgr hW HNUM hm h9 hg0 h4 HE HBG HB1 H41 m1 m2
  go_wp2_with (fail)
  go_loopw [7, 10, 11] (fun sv cv iv W => ∃ (i : Nat) (st : List ByteArray) (out : PNet) (cnt : Nat) (vs vo : Value) (P : Nat → Prop), sv = vs ∧ cv = .int .i64 (cnt : Int) ∧ iv = .int .i64 (i : Int) ∧ Hid (ExI S most b4 [] i st out cnt W) ∧ Hid (ExL b4 P b4 b9 m w W st out vs vo)) (fun _ _ iv _ => 20001 - (intOf iv).toNat)
  case atStart => exact ⟨0, [s0], [], 0, _, _, _, rfl, rfl, rfl, HI0.out, HE0.out⟩
  case round =>
    obtain ⟨i, st, out, cnt, vs, vo, PN, hsv, hcv, hiv, HI, HE⟩ := hrel
    subst hsv
    subst hcv
    subst hiv
    clear HI0 HE0
    obtain ⟨av, cv, rfl, hcv, _⟩ := owns_form HE.out.row
    obtain ⟨sl, hL⟩ : ∃ L, st.length = L := ⟨_, rfl⟩
    have HL := Lib.hid hL
    rw [hL] at hcv
    clear hL
    have hlm : sl ≤ 20000 := by
      have h3 := HI.out.met.len
      have h4 := HL.out
      omega
    by_cases hil : i < sl
    · have hi2i : (i : Int) < (sl : Int) := by omega
      have hi0i : (0 : Int) ≤ (i : Int) := by omega
      have hwii : IntKind.i64.wrap (i : Int) = (i : Int) := by rw [IntKind.wrap_i64]; omega
      have hwji : IntKind.i64.wrap ((i : Int) + 1) = (i : Int) + 1 := by rw [IntKind.wrap_i64]; omega
      rw [HL.out]
      go_wp2_with (fail)
      have hilst : i < st.length := by rw [HL.out]; exact hil
      obtain ⟨k, hk⟩ : ∃ k, st[i] = k := ⟨_, rfl⟩
      have HK := Lib.hid hk
      obtain ⟨gs, cs, css, he, _, hges, hbs, hcls, hcts⟩ := owns_box HE.out.row (by omega)
      injection he with he _ he'
      subst he he'
      have hci : css[i]? = some (.string k) := by
        have h1 : (css.take (st.length * 1))[i]? = css[i]? := by rw [List.getElem?_take_of_lt (by omega)]
        rw [← h1, hcts, List.getElem?_map, List.getElem?_eq_getElem hilst, hk]
        rfl
      have HCI := Lib.hid hci
      have HBS := Lib.hid hbs
      have HKS : Hid (k.size ≤ 1048576) := by
        have := HI.out.met.size _ (List.getElem_mem hilst)
        rw [hk] at this
        exact this
      have HBW : Hid (Below w.heap.size w wr) := HE.out.below.mono (by rw [HB4.out]; exact Nat.le_refl _)
      clear hk hges hbs hcls hcts hci
      refine wp_region_rho (fun (r : Nat) j => ([(.iface I.tid I.dyn), (.slice (some ⟨gs, 0, none⟩) sl cv), (.int .i64 (i : Int)), (.pointer (some ⟨gs, i, none⟩)), (.string k), (.func (.method "Look") #[.iface I.tid I.dyn] #[]), (.func (.method "Look") #[.iface I.tid I.dyn] #[]), (.iface I.tid I.dyn), (sight (S.look k)), (.pointer (some ⟨r, 0, none⟩)), (undef)] : List Value).getD j undef) (fun r L w2 => Below wr.heap.size wr w2 ∧ (L.getD 9 false = true → wr.heap.size ≤ r ∧ Holds w2 r 92 (if L.getD 10 false then (sightC (S.look k)) else [.int .u64 0, .bool false, .bool false, .bool false])) ∧ (L.getD 10 false = true → L.getD 9 false = true)) [(0, 32), (1, 33), (2, 34), (3, 35), (4, 36), (5, 37), (6, 38), (7, 39), (8, 40), (9, 12)] 125 rfl (by kernel_rfl) (by kernel_rfl) (by kernel_rfl) 0 ⟨(Fr.refl (fun _ => False) wr).drew.to_below (Nat.le_refl _) (fun _ _ h => h), (fun h => by simp at h), (fun h => by simp at h)⟩ (fun i hi => ?_) (fun r w9 hW9 => ?_)
      · have hi2 : i < 11 := hi
        clear hi
        have hi3 : i = 0 ∨ i = 1 ∨ i = 2 ∨ i = 3 ∨ i = 4 ∨ i = 5 ∨ i = 6 ∨ i = 7 ∨ i = 8 ∨ i = 9 ∨ i = 10 := by omega
        clear hi2
        rcases hi3 with rfl | rfl | rfl | rfl | rfl | rfl | rfl | rfl | rfl | rfl | rfl
        · exact RhoOp.pure rfl (fun r L b w2 hl hR hW => by
            have h0 : b.eval (.tmp 0) = .iface I.tid I.dyn := (hR.old (by decide) (by kernel_rfl)).trans rfl
            simp only [Act.eval, Array.getD_eq_getD_getElem?] at h0
            show (execOp b.eval _).run _ _ = .ok (.value (.iface I.tid I.dyn)) _
            unfold execOp
            simp [go_sem, h0]) (fun r L w2 hs h => by
            simp only [gd_ne (L := L) (i := 0) (j := 9) (by decide), gd_ne (L := L) (i := 0) (j := 10) (by decide)]
            exact h)
        · exact RhoOp.pure rfl (fun r L b w2 hl hR hW => by
            have h7 : b.eval (.tmp 7) = .slice (some ⟨gs, 0, none⟩) sl cv := (hR.old (by decide) (by kernel_rfl)).trans rfl
            simp only [Act.eval, Array.getD_eq_getD_getElem?] at h7
            show (execOp b.eval _).run _ _ = .ok (.value (.slice (some ⟨gs, 0, none⟩) sl cv)) _
            unfold execOp
            simp [go_sem, h7]) (fun r L w2 hs h => by
            simp only [gd_ne (L := L) (i := 1) (j := 9) (by decide), gd_ne (L := L) (i := 1) (j := 10) (by decide)]
            exact h)
        · exact RhoOp.pure rfl (fun r L b w2 hl hR hW => by
            have h11 : b.eval (.tmp 11) = .int .i64 (i : Int) := (hR.old (by decide) (by kernel_rfl)).trans rfl
            simp only [Act.eval, Array.getD_eq_getD_getElem?] at h11
            show (execOp b.eval _).run _ _ = .ok (.value (.int .i64 (i : Int))) _
            unfold execOp
            simp [go_sem, h11]) (fun r L w2 hs h => by
            simp only [gd_ne (L := L) (i := 2) (j := 9) (by decide), gd_ne (L := L) (i := 2) (j := 10) (by decide)]
            exact h)
        · exact RhoOp.pure rfl (fun r L b w2 hl hR hW => by
            have h33 : b.eval (.tmp 33) = .slice (some ⟨gs, 0, none⟩) sl cv := hR.of (j := 1) (by decide) (by kernel_rfl)
            have h34 : b.eval (.tmp 34) = .int .i64 (i : Int) := hR.of (j := 2) (by decide) (by kernel_rfl)
            simp only [Act.eval, Array.getD_eq_getD_getElem?] at h33 h34
            show (execOp b.eval _).run _ _ = .ok (.value (.pointer (some ⟨gs, i, none⟩))) _
            unfold execOp
            simp [go_sem, h33, h34, hi0i, hi2i, hwii]) (fun r L w2 hs h => by
            simp only [gd_ne (L := L) (i := 3) (j := 9) (by decide), gd_ne (L := L) (i := 3) (j := 10) (by decide)]
            exact h)
        · exact RhoOp.pure rfl (fun r L b w2 hl hR hW => by
            have e : w2.cell? ⟨gs, i, none⟩ = some (.string k) := ((HBS.out.belowAll hW.1).cell i).trans HCI.out
            have h35 : b.eval (.tmp 35) = .pointer (some ⟨gs, i, none⟩) := hR.of (j := 3) (by decide) (by kernel_rfl)
            simp only [Act.eval, Array.getD_eq_getD_getElem?] at h35
            show (execOp b.eval _).run _ _ = .ok (.value (.string k)) _
            unfold execOp
            simp [go_sem, h35, e]) (fun r L w2 hs h => by
            simp only [gd_ne (L := L) (i := 4) (j := 9) (by decide), gd_ne (L := L) (i := 4) (j := 10) (by decide)]
            exact h)
        · exact RhoOp.pure rfl (fun r L b w2 hl hR hW => by
            have h32 : b.eval (.tmp 32) = .iface I.tid I.dyn := hR.of (j := 0) (by decide) (by kernel_rfl)
            simp only [Act.eval, Array.getD_eq_getD_getElem?] at h32
            show (execOp b.eval _).run _ _ = .ok (.value (.func (.method "Look") #[.iface I.tid I.dyn] #[])) _
            unfold execOp
            simp [go_sem, h32]) (fun r L w2 hs h => by
            simp only [gd_ne (L := L) (i := 5) (j := 9) (by decide), gd_ne (L := L) (i := 5) (j := 10) (by decide)]
            exact h)
        · exact RhoOp.pure rfl (fun r L b w2 hl hR hW => by
            have e := HSS.out.nL w2
            have h37 : b.eval (.tmp 37) = .func (.method "Look") #[.iface I.tid I.dyn] #[] := hR.of (j := 5) (by decide) (by kernel_rfl)
            simp only [Act.eval, Array.getD_eq_getD_getElem?] at h37
            show (execOp b.eval _).run _ _ = .ok (.value (.func (.method "Look") #[.iface I.tid I.dyn] #[])) _
            unfold execOp
            simp [go_sem, h37, e]) (fun r L w2 hs h => by
            simp only [gd_ne (L := L) (i := 6) (j := 9) (by decide), gd_ne (L := L) (i := 6) (j := 10) (by decide)]
            exact h)
        · exact RhoOp.pure rfl (fun r L b w2 hl hR hW => by
            have h32 : b.eval (.tmp 32) = .iface I.tid I.dyn := hR.of (j := 0) (by decide) (by kernel_rfl)
            simp only [Act.eval, Array.getD_eq_getD_getElem?] at h32
            show (execOp b.eval _).run _ _ = .ok (.value (.iface I.tid I.dyn)) _
            unfold execOp
            simp [go_sem, h32]) (fun r L w2 hs h => by
            simp only [gd_ne (L := L) (i := 7) (j := 9) (by decide), gd_ne (L := L) (i := 7) (j := 10) (by decide)]
            exact h)
        · exact RhoOp.call (f := I.fL) rfl (fun r L b w2 hs hl hR hW => by
            have h39 : b.eval (.tmp 39) = .iface I.tid I.dyn := hR.of (j := 7) (by decide) (by kernel_rfl)
            have h36 : b.eval (.tmp 36) = .string k := hR.of (j := 4) (by decide) (by kernel_rfl)
            simp only [Act.eval, Array.getD_eq_getD_getElem?] at h39 h36
            refine ⟨#[I.dyn, .string k], ?_, ?_⟩
            · unfold execOp
              simp [go_sem, h39, h36, HSS.out.mL, HSS.out.eL]
            · refine (HSS.out.look w2 k (HBW.out.trans (hW.1.mono HBW.out.size)) HKS.out).mono fun e w4 h => ?_
              obtain ⟨hb, he⟩ := h
              refine ⟨r, fun _ _ => rfl, he, hW.1.trans (hb.mono hW.1.size), fun q => ?_, fun q => ?_⟩
              · rw [gd_ne (by decide)] at q
                rw [gd_ne (by decide)]
                exact ⟨(hW.2.1 q).1, (hW.2.1 q).2.belowAll hb⟩
              · rw [gd_ne (by decide)] at q
                rw [gd_ne (by decide)]
                exact hW.2.2 q)
        · exact RhoOp.make rfl (fun r L b w2 hs hl hR hW => by
            refine ⟨w2.heap.size, w2.alloc (.cells #[.int .u64 0, .bool false, .bool false, .bool false] 92), ?_, ?_, ?_⟩
            · exact fun j hj => match j, hj with | 9, hj => (by rw [hl] at hj; cases hj) | 0, _ => rfl | 1, _ => rfl | 2, _ => rfl | 3, _ => rfl | 4, _ => rfl | 5, _ => rfl | 6, _ => rfl | 7, _ => rfl | 8, _ => rfl | 10, _ => rfl | j + 11, _ => rfl
            · show (execOp b.eval _).run _ _ = .ok (.value (.pointer (some ⟨(w2.heap.size), 0, none⟩))) _
              unfold execOp
              simp [go_sem, ]
            · have hb : Below w2.heap.size w2 (w2.alloc (.cells #[.int .u64 0, .bool false, .bool false, .bool false] 92)) := (Below.refl _ _).alloc (Nat.le_refl _) _
              have h10 : L.getD 10 false = false := by
                cases hq : L.getD 10 false with
                | false => rfl
                | true => have := hW.2.2 hq; rw [hl] at this; cases this
              refine ⟨hW.1.trans (hb.mono hW.1.size), fun _ => ⟨hW.1.size, ?_⟩, fun q => ?_⟩
              · rw [gd_ne (by decide), h10]
                exact Holds.new w2 92 #[.int .u64 0, .bool false, .bool false, .bool false]
              · rw [gd_ne (by decide), h10] at q; cases q)
        · exact RhoOp.store rfl rfl (fun r L b w2 hs hl hR hW => by
            have h9 := hR.on (j := 9) (by kernel_rfl)
            obtain ⟨hge, hbx⟩ := hW.2.1 h9
            rw [hl] at hbx
            have hst := storeN (P := Try.prog) (ty := 92) (xs := sightC (S.look k)) (i := 0) hbx (Nat.le_of_ble_eq_true rfl) sz_Sight rfl
            have h12 : b.eval (.tmp 12) = .pointer (some ⟨r, 0, none⟩) := hR.of (j := 9) (by decide) (by kernel_rfl)
            have h40 : b.eval (.tmp 40) = sight (S.look k) := hR.of (j := 8) (by decide) (by kernel_rfl)
            simp only [Act.eval, Array.getD_eq_getD_getElem?] at h12 h40
            refine ⟨r, setR w2 r 0 (sightC (S.look k)), fun _ _ => rfl, ?_, ?_⟩
            · show (execOp b.eval _).run _ _ = .ok .skip _
              unfold execOp
              simp [Act.eval, h12, h40, Sem.run_bind, sight_agg, hst]
            · have hfr := Fr.setRX r (sightC (S.look k)) 0 w2
              refine ⟨hW.1.trans (hfr.to_below hW.1.size fun q hq e => by omega), fun _ => ⟨hge, ?_⟩, fun _ => ?_⟩
              · rw [gd_eq (by rw [hs]; decide), if_pos rfl]
                have := hbx.stored (W' := setR w2 r 0 (sightC (S.look k))) rfl (Nat.le_of_ble_eq_true rfl)
                exact this
              · rw [gd_ne (by decide)]; exact h9)
      · refine puts_as (ps := [(0, 32, .iface I.tid I.dyn), (1, 33, .slice (some ⟨gs, 0, none⟩) sl cv), (2, 34, .int .i64 (i : Int)), (3, 35, .pointer (some ⟨gs, i, none⟩)), (4, 36, .string k), (5, 37, .func (.method "Look") #[.iface I.tid I.dyn] #[]), (6, 38, .func (.method "Look") #[.iface I.tid I.dyn] #[]), (7, 39, .iface I.tid I.dyn), (8, 40, sight (S.look k)), (9, 12, .pointer (some ⟨r, 0, none⟩))]) rfl ?_
        simp only [puts, Act.put, List.setIfInBounds_toArray, List.set_cons_zero, List.set_cons_succ]
        obtain ⟨hb9, h9, -⟩ := hW9
        obtain ⟨hge, hbx⟩ := h9 rfl
        generalize r = b12 at *
        obtain ⟨x, hx⟩ : ∃ x, S.look k = x := ⟨_, rfl⟩
        rw [hx] at hbx ⊢
        replace hbx : Holds w9 b12 92 (sightC x) := hbx
        have HXX := Lib.hid hx
        have f0 := hbx.cell 0
        have f1 := hbx.cell 1
        have f2 := hbx.cell 2
        have f3 := hbx.cell 3
        simp only [sightC, List.getElem?_cons_zero, List.getElem?_cons_succ] at f0 f1 f2 f3
        have HB9 := Lib.hid hb9
        have HZ13 : Hid (Holds (w9.alloc (.cells #[.slice none 0 0, .int .u64 0, .bool false, .bool false, .bool false] 81)) w9.heap.size 81 [.slice none 0 0, .int .u64 0, .bool false, .bool false, .bool false]) := Holds.new w9 81 #[.slice none 0 0, .int .u64 0, .bool false, .bool false, .bool false]
        clear hb9 h9 hbx hx hge
        go_wp2_with (refine wpList_storeB rfl 81 _ _ rfl w9.heap.size 0 [.slice none 0 0, .int .u64 (x.props : Int), .bool x.fin, .bool x.prog, .bool x.acc] rfl rfl HZ13.out (Nat.le_of_ble_eq_true rfl) sz_Node rfl ?_)
        refine Named.mk (fun w13 hW13 => ?_)
        have hb13 : Below w9.heap.size w9 w13 := by rw [hW13]; exact Below.far (Below.refl _ _) (Nat.le_refl _) _ _ _
        have hD13 := HZ13.out.stored hW13 (Nat.le_of_ble_eq_true rfl)
        have HX13 : Hid (Holds w13 w9.heap.size 81 [.slice none 0 0, .int .u64 (x.props : Int), .bool x.fin, .bool x.prog, .bool x.acc]) := hD13
        have HB13 := Lib.hid (HB9.out.trans (hb13.mono HB9.out.size))
        obtain ⟨b13, hb13e⟩ : ∃ b, w9.heap.size = b := ⟨_, rfl⟩
        have HGE13 : Hid (wr.heap.size ≤ b13) := by rw [← hb13e]; exact HB9.out.size
        rw [hb13e] at HX13 ⊢
        have g0 : w13.cell? ⟨gs, i, none⟩ = some (.string k) := ((HBS.out.belowAll HB13.out).cell i).trans HCI.out
        have HALL := Lib.hid (allG (w := w13) (s := k) (most := 262145) (HSS.out.at (HBW.out.trans (HB13.out.mono HBW.out.size))) HKS.out (by omega))
        obtain ⟨nx, hnx⟩ : ∃ l, S.next k = l := ⟨_, rfl⟩
        have HNX := Lib.hid hnx
        rw [hnx] at HALL
        clear hW13 hb13 hD13 HZ13 f0 f1 f2 f3 hb13e hnx
        go_wp2_with (fail)
        refine HALL.out.mono ?_
        rintro e w14 ⟨hb14, vl, n, fm, lm, rfl, hn1, hn2, hn3, hlm2, hml, hmg⟩
        obtain ⟨ms, hms⟩ : ∃ l, nx.take n = l := ⟨_, rfl⟩
        have hmsn : ms.length = n := by rw [← hms, List.length_take]; omega
        have HMS := Lib.hid hms
        rw [hms] at hmg
        rw [← hmsn] at hml
        have HRS := Lib.hid (RndL.start HE.out HB13.out HX13.out HGE13.out hb14 hlm2 hml (LsF.mono (fun _ _ => MovF.mono fun q hq _ => hq.1) _ (LsF.imp (fun _ _ => MovG.movF) _ hmg)))
        have hfm := RowL.of_owns2 (P := fun _ => True) hml fun _ _ => trivial
        obtain ⟨am, cm, rfl, _⟩ := hfm.form
        have HN1 := Lib.hid hn1
        have HMN := Lib.hid hmsn
        rw [hmsn]
        have HB14 : Hid (Below wr.heap.size wr w14) := HB13.out.trans (hb14.mono HB13.out.size)
        have HXT : Hid (∀ a ∈ ms, a.dst.size ≤ 1048576) := fun a ha => HSS.out.small.dsts k HKS.out a (by rw [HNX.out]; rw [← HMS.out] at ha; exact List.mem_of_mem_take ha)
        clear hb14 hlm2 hml hmg hms hmsn hfm hn1 hn2 g0 HALL
        go_wp2_with (fail)
        obtain ⟨wo, rfl⟩ : ∃ W, W = wr := ⟨_, rfl⟩
        go_loopw [7, 10, 15] (fun sv nv qv W => ∃ (q : Nat) (st1 : List ByteArray) (bs : List PArc) (vs1 va : Value), sv = vs1 ∧ nv = .int .i64 ((cnt + q : Nat) : Int) ∧ qv = .int .i64 (q : Int) ∧ q ≤ n ∧ Hid (stepAs most cnt st (ms.take q) = some (st1, bs)) ∧ Hid (RndL b4 w13.heap.size b13 0 (fun k => PN k ∧ k < wo.heap.size) b4 b9 m w st1 out x bs vs1 vo va ms (.slice am ms.length cm) [] [] W)) (fun _ _ qv _ => n - (intOf qv).toNat)
        case atStart => exact ⟨0, st, [], _, _, by rw [HL.out], rfl, rfl, Nat.zero_le _, rfl, HRS.out⟩
        case round =>
          clear HRS HCI HBS HX13 hil hi2i hi0i hwii
          obtain ⟨q, st1, bs, vs1, va, hsv, hnv, hqv, hqn, HS1, HR⟩ := hrel
          obtain ⟨av1, cv1, rfl, hcv1, _⟩ := owns_form HR.out.ex.row
          obtain ⟨n0, hn0⟩ : ∃ n, cnt + q = n := ⟨_, rfl⟩
          rw [hn0] at hnv
          have HN0 := Lib.hid hn0
          clear hn0
          subst hsv
          subst hnv
          subst hqv
          have HM1 : Hid (Met most st1 ∧ st <+: st1 ∧ bs.length = (ms.take q).length ∧ (cnt ≤ 262144 → cnt + (ms.take q).length ≤ 262144)) := stepAs_met HI.out.met (fun a ha => HXT.out a (List.mem_of_mem_take ha)) HS1.out
          have HQL : Hid ((ms.take q).length = q) := by show _ = _; rw [List.length_take, HMN.out]; omega
          have hc26 : n0 ≤ 262144 := by
            have h3 := HM1.out.2.2.2 HI.out.cnt_
            rw [HQL.out, HN0.out] at h3
            exact h3
          by_cases hqlt : q < n
          · have hj : q < ms.length := by rw [HMN.out]; exact hqlt
            have hq2 : (q : Int) < (n : Int) := by omega
            have hq0 : (0 : Int) ≤ (q : Int) := by omega
            have hwq : IntKind.i64.wrap (q : Int) = (q : Int) := by rw [IntKind.wrap_i64]; omega
            have hwq1 : IntKind.i64.wrap ((q : Int) + 1) = (q : Int) + 1 := by rw [IntKind.wrap_i64]; omega
            obtain ⟨gm, om, cm2, a1, n1, k1, a2, n2, k2, he, hG, hr⟩ := HR.out.mov hj
            injection he with he _ hec
            subst he
            subst hec
            obtain ⟨a, ha⟩ : ∃ a, ms[q] = a := ⟨_, rfl⟩
            rw [ha] at hG hr
            have ham : a ∈ ms := by rw [← ha]; exact List.getElem_mem hj
            have HTA : Hid (a.dst.size ≤ 1048576) := HXT.out a ham
            have HAA := Lib.hid ha
            have HG := Lib.hid hG
            have HRG := Lib.hid hr
            have HONE := Lib.hid (oneMov.one hG)
            have HZ16 := Lib.hid (Holds.new wr 75 #[.int .i64 0, .int .i64 0, .int .i64 0, .int .i64 0, .string ⟨#[]⟩, .int .i64 0, .slice none 0 0, .slice none 0 0, .int .u64 0])
            clear ha hG hr ham
            go_wp2_with (first | (refine wpList_load_mid rfl 75 _ rfl gm (om + q * 9) rfl (mvC a (.slice a1 n1 k1) (.slice a2 n2 k2)) _ HRG.out Try.underlying75 rfl sz_Move ?_) | (refine wpList_storeB rfl 75 _ _ rfl wr.heap.size 0 (mvC a (.slice a1 n1 k1) (.slice a2 n2 k2)) rfl rfl HZ16.out (Nat.le_of_ble_eq_true rfl) sz_Move HONE.out ?_))
            refine Named.mk (fun w16 hW16 => ?_)
            have hb16 : Below wr.heap.size wr w16 := by rw [hW16]; exact Below.far (Below.refl _ _) (Nat.le_refl _) _ _ _
            have h16 : Holds w16 wr.heap.size 75 (mvC a (.slice a1 n1 k1) (.slice a2 n2 k2)) := HZ16.out.stored hW16 (Nat.le_of_ble_eq_true rfl)
            have hG16 : MovF (PA w13.heap.size 0 (.slice av1 st1.length cv1) va) w16 a (mvC a (.slice a1 n1 k1) (.slice a2 n2 k2)) := oneMov.up (Keep.below hb16) HG.out
            have hR16 := ((HR.out.fresh hb16).take hG16 0).arm (Y := w16.heap.size) (.inl (Nat.le_refl _))
            have HR16 := Lib.hid hR16
            have H16 := Lib.hid h16
            have f0 := h16.cell 0
            have f5 := h16.cell 5
            have f6 := h16.cell 6
            have f7 := h16.cell 7
            have f8 := h16.cell 8
            simp only [mvC, List.getElem?_cons_zero, List.getElem?_cons_succ] at f0 f5 f6 f7 f8
            clear hW16 hb16 h16 hG16 hR16 HR HG HRG HONE HZ16
            obtain ⟨W1, hW1⟩ : ∃ W1, W1 = w16.alloc (.cells #[.int .i64 a.proc, .int .i64 0, .int .i64 a.bad, .slice a1 n1 k1, .slice a2 n2 k2, .int .u64 (a.turns : Int)] 86) := ⟨_, rfl⟩
            have hb1 : Below w16.heap.size w16 W1 := by rw [hW1]; exact (Below.refl _ _).alloc (Nat.le_refl _) _
            have HR1 := Lib.hid (HR16.out.fresh hb1)
            have h17 : Holds W1 w16.heap.size 86 (arcC (a.goes 0) (.slice a1 n1 k1) (.slice a2 n2 k2)) := by rw [hW1]; exact Holds.new w16 86 (arcC (a.goes 0) (.slice a1 n1 k1) (.slice a2 n2 k2)).toArray
            have h161 := H16.out.belowAll hb1
            have g4 := h161.cell 4
            have g5 := h161.cell 5
            simp only [mvC, List.getElem?_cons_zero, List.getElem?_cons_succ] at g4 g5
            have HVA : Hid (va.ownBlock ≠ some w16.heap.size) := by
              obtain ⟨fa, q1, _⟩ := HR16.out.row
              intro he
              exact Nat.lt_irrefl _ (owns_lt q1 _ he)
            have HX : Hid (w13.heap.size ≤ w16.heap.size) := HR16.out.ge.2.2
            have H17 := Lib.hid h17
            have H161 := Lib.hid h161
            clear hb1 h17 h161 HR16 H16
            have g5' := g5
            rw [hW1] at g5'
            go_upto_if 79 with (fail)
            rw [← hW1]
            clear hW1 g5' g5
            go_cut [7] (fun s7 wx => ∃ (st2 : List ByteArray) (b : PArc) (vs2 vr vw : Value), s7 = vs2 ∧ Hid (stepA most st1 a = some (st2, b)) ∧ Hid (RndL b4 w13.heap.size b13 w16.heap.size (fun k => PN k ∧ k < wo.heap.size) b4 b9 m w st2 out x bs vs2 vo va ms (.slice (some ⟨gm, om, none⟩) ms.length cm) [b] (arcC b vr vw) wx) ∧ Hid (Holds wx w16.heap.size 86 (arcC b vr vw)))
            case first =>
              have HNU := Lib.hid HR1.out.ex.num
              by_cases hbad : a.bad = 0
              · have d0 : (a.bad == 0) = true := by simpa using hbad
                have HBD := Lib.hid hbad
                clear hbad
                go_wp2_with (refine wpList_look_num (off := 1) rfl _ _ rfl m st1.length a.dst st1 rfl rfl HNU.out HTA.out ?_)
                intro c hc1 hc2
                by_cases hin : a.dst ∈ st1
                · obtain ⟨z, hz⟩ : ∃ z : Nat, st1.idxOf a.dst = z := ⟨_, rfl⟩
                  have hcz := hc1 hin
                  rw [hz] at hcz
                  have hzl : z < 20000 := by
                    have h3 := List.idxOf_lt_length_iff.2 hin
                    have h4 := HM1.out.1.len
                    omega
                  have d1 : (c == 0) = false := by rw [beq_eq_false_iff_ne]; omega
                  have hws : IntKind.i64.wrap (c - 1) = (z : Int) := by rw [IntKind.wrap_i64]; omega
                  have HIN := Lib.hid hin
                  have HZ := Lib.hid hz
                  have HCZ := Lib.hid hcz
                  clear hin hz hcz hc1 hc2
                  go_wp2_with (refine wpList_look_num (off := 1) rfl _ _ rfl m st1.length a.dst st1 rfl rfl HNU.out HTA.out ?_)
                  intro c2 hc3 hc4
                  have hcz2 : c2 = c := by rw [hc3 HIN.out, HZ.out, HCZ.out]
                  subst hcz2
                  clear hc3 hc4
                  go_wp2_with (refine wpList_store1 rfl 3 _ _ rfl w16.heap.size 1 (.int .i64 (z : Int)) rfl rfl H17.out (Nat.le_of_ble_eq_true rfl) sz_Int rfl rfl ?_)
                  refine Named.mk (fun W6 hW6 => ?_)
                  have hf6 : Fr (fun q => q = w16.heap.size) W1 W6 := by rw [hW6]; exact Fr.setRX _ _ 1 _
                  have HR6 := Lib.hid ((HR1.out.still hf6 (fun k hk => by
                    have hk : k = w16.heap.size := hk
                    subst hk
                    obtain ⟨fm9, q9, _⟩ := HR1.out.mrow
                    exact ⟨HX.out, rfl, owns_ne_holds HR1.out.ex.row H17.out (by decide), HVA.out, owns_ne_holds q9 H17.out (by decide)⟩)).loosen (z : Int))
                  have H176 : Hid (Holds W6 w16.heap.size 86 (arcC (a.goes (z : Int)) (.slice a1 n1 k1) (.slice a2 n2 k2))) := H17.out.stored hW6 (Nat.le_of_ble_eq_true rfl)
                  clear hW6 hf6
                  go_wp2
                  go_meet
                  case rel => exact ⟨st1, a.goes (z : Int), _, _, _, rfl, by show _ = _; rw [← HZ.out]; exact stepA_old HBD.out HIN.out, HR6, H176⟩
                · have hc0 : c = 0 := hc2 hin
                  subst hc0
                  have HIN := Lib.hid hin
                  clear hin hc1 hc2
                  by_cases hm : st1.length = most
                  · have d3 : ((st1.length : Int) == (most : Int)) = true := by rw [hm]; exact beq_self_eq_true _
                    have HH4 := Lib.hid HR1.out.ex.r4
                    have HSN : Hid (res = none) := by
                      have hst : stepA most st1 a = none := by unfold stepA; rw [if_pos HBD.out, if_neg HIN.out, if_pos hm]
                      have hsn := stepAs_snoc most (ms.take q) a cnt st
                      rw [HS1.out] at hsn
                      simp only [hst] at hsn
                      have h3 : stepAs most cnt st nx = none := by
                        rw [← List.take_append_drop (q + 1) nx]
                        refine stepAs_app_none most _ _ _ _ ?_
                        have h5 : ms.take (q + 1) = nx.take (q + 1) := by rw [← HMS.out, List.take_take]; congr 1; omega
                        have h4 : nx.take (q + 1) = ms.take q ++ [a] := by rw [← h5, List.take_add_one, List.getElem?_eq_getElem hj, HAA.out]; rfl
                        rw [h4]
                        exact hsn
                      show _ = _
                      rw [← HRES.out, ← HSB.out]
                      exact HI.out.none hilst HK.out (by rw [HNX.out]; exact h3)
                    have HBB : Hid (Below b4 w W1) := HR1.out.ex.below
                    clear hm
                    go_wp2_with (refine wpList_storeB rfl 24 _ _ rfl b4 0 [.slice none 0 0] rfl rfl HH4.out (Nat.le_of_ble_eq_true rfl) sz_NetE rfl ?_)
                    refine Named.mk (fun W2 hW2 => ?_)
                    have hf2 : Fr (fun q => q = b4) W1 W2 := by rw [hW2]; exact Fr.setRX b4 _ 0 _
                    have H4 : Hid (Holds W2 b4 24 [.slice none 0 0]) := HH4.out.stored hW2 (Nat.le_of_ble_eq_true rfl)
                    have HB2 : Hid (Below w.heap.size w W2) := by
                      have h3 := HBB.out
                      rw [← HB4.out] at h3
                      exact h3.trans (hf2.to_below h3.size fun q hq he => by rw [HB4.out] at hq; have he : q = b4 := he; omega)
                    clear hW2 hf2 HH4 HBB
                    go_wp2
                    refine bodyPost_ret (results_epl H4.out rfl) rfl ?_
                    rw [HSN.out]
                    exact ⟨HB2.out, rfl⟩
                  · have d3 : ((st1.length : Int) == (most : Int)) = false := by rw [Bool.eq_false_iff]; intro h3; have h4 := eq_of_beq h3; exact hm (by omega)
                    have HM := Lib.hid hm
                    obtain ⟨i0, z0, hi0, hz0, hz1, hz2, hz3⟩ := info_of info_str
                    clear hm
                    have HSL : Hid (st1.length < 20000) := by have h4 := HM1.out.1.len; have h5 := HM.out; show _ < _; omega
                    go_wp2_with (refine halt_call2 { callee := .builtin .append, args := #[.tmp 90, .tmp 93], argTypes := #[41, 41] } rfl ?_)
                    refine Stop.mk ?_
                    refine wpList_append_own_at _ rfl (.tmp 90) (.tmp 93) _ rfl b4 9 i0 z0 1 16 Try.underlying41 hi0 hz0 hz1 hz2 hz3 (by omega) (.slice av1 st1.length cv1) st1.length _ rfl (owns_below HR1.out.ex.row ((Below.refl _ _).alloc (Nat.le_refl _) _)) ⟨W1.heap.size, 0, none⟩ 1 1 [.string a.dst] rfl rfl ?c1 ?c2 ?c3 ?c4 ?c5 ?_
                    case c1 => exact cell_one_new _ _ _
                    case c2 => simp [Value.oneCell']
                    case c3 => have := HSL.out; unfold maxLen; omega
                    case c4 => have := HSL.out; omega
                    case c5 => have := HR1.out.ge; simp; omega
                    intro v' W4 hown hgrow _ hblk
                    obtain ⟨av2, cv2, rfl, hcv2, _⟩ := owns_form hown
                    have h164 := ((H161.out.alloc _).of_eq (hgrow.block _ (H161.out.alloc (.cells #[.string a.dst] 9)).lt fun he => owns_ne_holds HR1.out.ex.row H161.out (by decide) he.symm))
                    have hn4 : NumV 1 W4 m st1.length st1 := (HNU.out.alloc _).of_eq (hgrow.block _ (HNU.out.alloc (.cells #[.string a.dst] 9)).lt fun he => by
                      obtain ⟨cs, hh⟩ := owns_holds HR1.out.ex.row he.symm
                      exact HNU.out.ne hh rfl)
                    have e4 := h164.cell 4
                    simp only [mvC, List.getElem?_cons_zero, List.getElem?_cons_succ] at e4
                    have HN4 := Lib.hid hn4
                    have HOW := Lib.hid hown
                    have HGW := Lib.hid hgrow
                    have HBK := Lib.hid hblk
                    clear hown hgrow hblk h164 hn4 g4
                    go_wp2_with (refine wpList_insert_num (off := 1) rfl _ _ _ (.inr rfl) m st1.length a.dst st1 rfl rfl rfl HN4.out (by have := HSL.out; unfold maxLen; omega) HTA.out HIN.out (by have := HSL.out; omega) ?_)
                    intro W5 hn5 hg5
                    obtain ⟨r1, r2⟩ := HR1.out.grow HOW.out HGW.out HBK.out hn5 hg5
                    have hno : ∀ {g : Nat} {t : TypeId} {cs : List Value}, Holds W1 g t cs → t ≠ 9 → ¬ (g = m ∨ (Value.slice av1 st1.length cv1).ownBlock = some g) := fun hh ht hor => hor.elim (fun e => HNU.out.ne hh e.symm) (owns_ne_holds HR1.out.ex.row hh (Ne.symm ht))
                    have HR5 := Lib.hid r1
                    have h165 := r2.holds H161.out (hno H161.out (by decide))
                    have H175 := Lib.hid (r2.holds H17.out (hno H17.out (by decide)))
                    have e5 := h165.cell 4
                    simp only [mvC, List.getElem?_cons_zero, List.getElem?_cons_succ] at e5
                    obtain ⟨st5, hst5⟩ : ∃ l, st1 ++ [a.dst] = l := ⟨_, rfl⟩
                    rw [hst5] at hn5
                    have HST5 := Lib.hid hst5
                    have HN5 := Lib.hid hn5
                    clear hst5 r1 r2 hno h165 hn5 hg5 e4 HN4 HOW HGW HBK HR1 H17 HNU H161
                    go_wp2_with (refine wpList_look_num (off := 1) rfl _ _ rfl m (st1.length + 1) a.dst st5 rfl rfl HN5.out HTA.out ?_)
                    intro c2 hc3 hc4
                    have hcz2 : c2 = (st1.length : Int) + 1 := by
                      rw [hc3 (by rw [← HST5.out]; simp), ← HST5.out, List.idxOf_append, if_neg HIN.out]
                      simp
                    clear hc3 hc4
                    subst hcz2
                    have hws : IntKind.i64.wrap ((st1.length : Int) + 1 - 1) = (st1.length : Int) := by have := HSL.out; rw [IntKind.wrap_i64]; omega
                    have hws2 : IntKind.i64.wrap (st1.length : Int) = (st1.length : Int) := by have := HSL.out; rw [IntKind.wrap_i64]; omega
                    go_wp2_with (refine halt_store _ _ _ rfl ?_)
                    refine Stop.mk ?_
                    refine wpList_store1 rfl 3 _ _ rfl w16.heap.size 1 (.int .i64 (st1.length : Int)) rfl rfl H175.out (Nat.le_of_ble_eq_true rfl) sz_Int rfl rfl ?_
                    refine Named.mk (fun W6 hW6 => ?_)
                    have hf6 : Fr (fun q => q = w16.heap.size) W5 W6 := by rw [hW6]; exact Fr.setRX _ _ 1 _
                    have HR6 := Lib.hid ((HR5.out.still hf6 (fun k hk => by
                      have hk : k = w16.heap.size := hk
                      subst hk
                      obtain ⟨fm9, q9, _⟩ := HR5.out.mrow
                      exact ⟨HX.out, rfl, owns_ne_holds HR5.out.ex.row H175.out (by decide), HVA.out, owns_ne_holds q9 H175.out (by decide)⟩)).loosen (st1.length : Int))
                    have H176 : Hid (Holds W6 w16.heap.size 86 (arcC (a.goes (st1.length : Int)) (.slice a1 n1 k1) (.slice a2 n2 k2))) := H175.out.stored hW6 (Nat.le_of_ble_eq_true rfl)
                    clear hW6 hf6
                    go_wp2
                    go_meet
                    case rel => exact ⟨st1 ++ [a.dst], a.goes (st1.length : Int), _, _, _, rfl, stepA_new HBD.out HIN.out HM.out, HR6, H176⟩
              · have d0 : (a.bad == 0) = false := by simpa using hbad
                have HBD := Lib.hid hbad
                clear hbad
                go_wp2_with (fail)
                go_meet
                case rel => exact ⟨st1, a.goes 0, _, _, _, rfl, stepA_bad HBD.out, HR1, H17⟩
            case rest =>
              clear HR1 H17 H161 f0 f5 f6 f7 f8 g4 HVA
              obtain ⟨st2, b, vs2, vr, vw, hs7, HS2, HR2, H172⟩ := hcut
              obtain ⟨a3, n3, k3, a4, n4, k4, rfl, rfl⟩ := arc_forms HR2.out.loose.arc1
              obtain ⟨av2, cv2, rfl, hcv2, _⟩ := owns_form HR2.out.ex.row
              subst hs7
              have hwn : IntKind.i64.wrap ((n0 : Int) + 1) = (n0 : Int) + 1 := by rw [IntKind.wrap_i64]; omega
              have HSN : Hid (stepAs most cnt st (ms.take (q + 1)) = if 262144 < n0 + 1 then none else some (st2, bs ++ [b])) := by
                have hsn := stepAs_snoc most (ms.take q) a cnt st
                rw [HS1.out] at hsn
                simp only [HS2.out] at hsn
                rw [HQL.out, HN0.out] at hsn
                show _ = _
                rw [List.take_add_one, List.getElem?_eq_getElem hj, HAA.out]
                exact hsn
              by_cases hcb : 262144 < n0 + 1
              · have d4 : decide ((262144 : Int) < (n0 : Int) + 1) = true := decide_eq_true (by omega)
                have HH4 := Lib.hid HR2.out.ex.r4
                have HRN : Hid (res = none) := by
                  have h4 := HSN.out
                  rw [if_pos hcb] at h4
                  have h3 : stepAs most cnt st nx = none := by
                    rw [← List.take_append_drop (q + 1) nx]
                    refine stepAs_app_none most _ _ _ _ ?_
                    have h5 : ms.take (q + 1) = nx.take (q + 1) := by rw [← HMS.out, List.take_take]; congr 1; omega
                    rw [← h5]
                    exact h4
                  show _ = _
                  rw [← HRES.out, ← HSB.out]
                  exact HI.out.none hilst HK.out (by rw [HNX.out]; exact h3)
                have HBB : Hid (Below b4 w wc) := HR2.out.ex.below
                clear hcb
                go_wp2_with (refine wpList_storeB rfl 24 _ _ rfl b4 0 [.slice none 0 0] rfl rfl HH4.out (Nat.le_of_ble_eq_true rfl) sz_NetE rfl ?_)
                refine Named.mk (fun W2 hW2 => ?_)
                have hf2 : Fr (fun q => q = b4) wc W2 := by rw [hW2]; exact Fr.setRX b4 _ 0 _
                have H4 : Hid (Holds W2 b4 24 [.slice none 0 0]) := HH4.out.stored hW2 (Nat.le_of_ble_eq_true rfl)
                have HB2 : Hid (Below w.heap.size w W2) := by
                  have h3 := HBB.out
                  rw [← HB4.out] at h3
                  exact h3.trans (hf2.to_below h3.size fun q hq he => by rw [HB4.out] at hq; have he : q = b4 := he; omega)
                clear hW2 hf2 HH4 HBB
                go_wp2
                refine bodyPost_ret (results_epl H4.out rfl) rfl ?_
                rw [HRN.out]
                exact ⟨HB2.out, rfl⟩
              · have HCB : Hid (n0 + 1 ≤ 262144) := by show _ ≤ _; omega
                have d4 : decide ((262144 : Int) < (n0 : Int) + 1) = false := decide_eq_false (by omega)
                have hsq := HSN.out
                rw [if_neg hcb] at hsq
                have HSQ := Lib.hid hsq
                clear hcb hsq HSN
                obtain ⟨fa, hrow, hfa⟩ := HR2.out.row
                obtain ⟨av3, cv3, rfl, hcv3, _⟩ := owns_form hrow
                have g13 := HR2.out.node.cell 0
                simp only [nodeC, List.getElem?_cons_zero] at g13
                have HRG := Lib.hid (H172.out.range (i := 0) (n := 6) (xs := [.int .i64 b.proc, .int .i64 b.to, .int .i64 b.bad, .slice a3 n3 k3, .slice a4 n4 k4, .int .u64 (b.turns : Int)]) rfl)
                have HOW := Lib.hid hrow
                have HFA := Lib.hid hfa
                have HONE := Lib.hid (oneArc.one HR2.out.loose.arc1)
                have HBL : Hid (bs.length < 262145) := by
                  have h3 := HM1.out.2.2.1
                  rw [HQL.out] at h3
                  have h4 := HCB.out
                  have h5 := HN0.out
                  show _ < _
                  omega
                obtain ⟨i0, z0, hi0, hz0, hz1, hz2, hz3⟩ := info_of info_arc
                clear hrow hfa
                go_wp2_with (first | (refine wpList_load_mid rfl 86 _ rfl w16.heap.size 0 rfl [.int .i64 b.proc, .int .i64 b.to, .int .i64 b.bad, .slice a3 n3 k3, .slice a4 n4 k4, .int .u64 (b.turns : Int)] _ HRG.out Try.underlying86 rfl sz_Arc ?_) | (refine halt_call2 { callee := .builtin .append, args := #[.tmp 112, .tmp 114], argTypes := #[79, 79] } rfl ?_))
                refine Stop.mk ?_
                refine wpList_append_own_at _ rfl (.tmp 112) (.tmp 114) _ rfl w13.heap.size 86 i0 z0 6 80 Try.underlying79 hi0 hz0 hz1 hz2 hz3 (by omega) (.slice av3 bs.length cv3) bs.length fa rfl (owns_below HOW.out ((Below.refl _ _).alloc (Nat.le_refl _) _)) ⟨wc.heap.size, 0, none⟩ 1 1 (arcC b (.slice a3 n3 k3) (.slice a4 n4 k4)) rfl rfl ?c1 ?c2 ?c3 ?c4 ?c5 ?_
                case c1 => exact fun j u hu => by rw [Addr.add_lit, Nat.zero_add]; exact ((Holds.new wc 86 (arcC b (.slice a3 n3 k3) (.slice a4 n4 k4)).toArray).cell j).trans hu
                case c2 => exact List.all_eq_true.1 HONE.out
                case c3 => have := HBL.out; unfold maxLen; omega
                case c4 => have := HBL.out; omega
                case c5 => have := HR2.out.ge.2.2; simp; omega
                intro v' W8 hown hgrow _ hblk
                obtain ⟨av4, cv4, rfl, hcv4, _⟩ := owns_form hown
                have H138 := Lib.hid ((HR2.out.node.alloc _).of_eq (hgrow.block _ (HR2.out.node.alloc (.cells (arcC b (.slice a3 n3 k3) (.slice a4 n4 k4)).toArray 86)).lt fun he => owns_ne_holds HOW.out HR2.out.node (by decide) he.symm))
                have HOX := Lib.hid hown
                have HGW := Lib.hid hgrow
                have HBK := Lib.hid hblk
                clear hown hgrow hblk g13 HRG
                go_wp2_with (refine wpList_store1 rfl 79 _ _ rfl b13 0 (.slice av4 (bs.length + 1) cv4) rfl rfl H138.out (Nat.le_of_ble_eq_true rfl) sz_Arcs rfl rfl ?_)
                refine Named.mk (fun WZ hWZ => ?_)
                have r1 := (HR2.out.done HFA.out HOX.out HGW.out HBK.out hWZ).arm (Y := 0) (.inr (by have := HR2.out.ge; omega))
                have HRZ := Lib.hid r1
                clear hWZ r1 HOX HGW HBK H138 HR2 H172
                go_wp2
                refine ⟨⟨q + 1, st2, bs ++ [b], _, _, rfl, by rw [← Nat.add_assoc, HN0.out]; rfl, rfl, by omega, HSQ, HRZ⟩, ?_⟩
                simp [intOf]
                omega
          · obtain rfl : q = n := by omega
            have htk : ms.take q = ms := List.take_of_length_le (by rw [HMN.out]; exact Nat.le_refl _)
            have hs1 := HS1.out
            rw [htk] at hs1
            have hnx : ms = nx := by
              have h3 := HM1.out.2.2.2 HI.out.cnt_
              rw [HQL.out] at h3
              rcases HN1.out with h4 | h4
              · rw [← HMS.out, h4, List.take_length]
              · omega
            subst hnx
            obtain ⟨hmet, hpre, -, hcnt⟩ := stepAs_met HI.out.met HXT.out hs1
            obtain ⟨fo, n1, n2⟩ := HR.out.ex.nodes
            obtain ⟨avo, cvo, rfl, hcvo, _⟩ := owns_form n1
            have g9 := HR.out.ex.outs.cell 0
            simp only [List.getElem?_cons_zero] at g9
            obtain ⟨fa5, k5, _⟩ := HR.out.row
            obtain ⟨av5, cv5, rfl, hcv5, _⟩ := owns_form k5
            have hone : (nodeC (.slice av5 bs.length cv5) x).all (·.oneCell') = true := by simp [nodeC, Value.oneCell']
            have HRG := Lib.hid (HR.out.node.range (i := 0) (n := 5) (xs := [.slice av5 bs.length cv5, .int .u64 (x.props : Int), .bool x.fin, .bool x.prog, .bool x.acc]) rfl)
            have HONE := Lib.hid hone
            have HN1' := Lib.hid n1
            have HN2 := Lib.hid n2
            have HSS1 := Lib.hid hs1
            have HNXT : Hid (ExI S most b4 [] (i + 1) st1 (out ++ [{ x with arcs := bs }]) n0 wr) := by
              have hnx := HI.out.next (ds' := []) (W' := wr) hilst HK.out (by rw [HNX.out]; exact hs1) hmet hpre (by rw [HNX.out]; exact hcnt HI.out.cnt_) (by simp)
              rw [HNX.out, HXX.out] at hnx
              have h5 : cnt + ms.length = n0 := by rw [HMN.out, HN0.out]
              rw [h5] at hnx
              exact hnx
            have HOL : Hid (out.length ≤ 20000) := by
              have h3 := HI.out.at_
              have h4 := HL.out
              show _ ≤ _
              omega
            obtain ⟨i0, z0, hi0, hz0, hz1, hz2, hz3⟩ := info_of info_node
            clear n1 n2 hone hcvo hs1 htk hmet hpre hcnt k5
            go_wp2_with (first | (refine wpList_load_mid rfl 81 _ rfl b13 0 rfl [.slice av5 bs.length cv5, .int .u64 (x.props : Int), .bool x.fin, .bool x.prog, .bool x.acc] _ HRG.out Try.underlying81 rfl sz_Node ?_) | (refine halt_call2 { callee := .builtin .append, args := #[.tmp 118, .tmp 120], argTypes := #[22, 22] } rfl ?_))
            refine Stop.mk ?_
            refine wpList_append_own_at _ rfl (.tmp 118) (.tmp 120) _ rfl b4 81 i0 z0 5 40 Try.underlying22 hi0 hz0 hz1 hz2 hz3 (by omega) (.slice avo out.length cvo) out.length fo rfl (owns_below HN1'.out ((Below.refl _ _).alloc (Nat.le_refl _) _)) ⟨wr.heap.size, 0, none⟩ 1 1 (nodeC (.slice av5 bs.length cv5) x) rfl rfl ?c1 ?c2 ?c3 ?c4 ?c5 ?_
            case c1 => exact fun j u hu => by rw [Addr.add_lit, Nat.zero_add]; exact ((Holds.new wr 81 (nodeC (.slice av5 bs.length cv5) x).toArray).cell j).trans hu
            case c2 => exact List.all_eq_true.1 HONE.out
            case c3 => have := HOL.out; unfold maxLen; omega
            case c4 => have := HOL.out; omega
            case c5 => have := HR.out.ge; simp; omega
            intro v' W8 hown hgrow _ hblk
            obtain ⟨av4, cv4, rfl, hcv4, _⟩ := owns_form hown
            have H98 := Lib.hid ((HR.out.ex.outs.alloc _).of_eq (hgrow.block _ (HR.out.ex.outs.alloc (.cells (nodeC (.slice av5 bs.length cv5) x).toArray 81)).lt fun he => owns_ne_holds HN1'.out HR.out.ex.outs (by decide) he.symm))
            have HOX := Lib.hid hown
            have HGW := Lib.hid hgrow
            have HBK := Lib.hid hblk
            clear hown hgrow hblk g9 HRG
            go_wp2_with (refine wpList_store1 rfl 22 _ _ rfl b9 0 (.slice av4 (out.length + 1) cv4) rfl rfl H98.out (Nat.le_of_ble_eq_true rfl) sz_Nodes rfl rfl ?_)
            refine Named.mk (fun WZ hWZ => ?_)
            have r1 := HR.out.close HN2.out HN1'.out HOX.out HGW.out HBK.out hWZ
            have HEZ := Lib.hid r1
            have HIZ : Hid (ExI S most b4 [] (i + 1) st1 (out ++ [{ x with arcs := bs }]) n0 WZ) := by
              have h := HNXT.out
              exact ⟨h.met, h.at_, h.rest, h.cnt_, by simp⟩
            clear hWZ r1 HOX HGW HBK H98 HR
            go_wp2
            refine ⟨⟨i + 1, st1, _, _, _, _, _, rfl, rfl, rfl, HIZ, HEZ⟩, ?_⟩
            have h8 := HL.out
            simp [intOf]
            omega
    · have hnl : ¬ i < st.length := by rw [HL.out]; exact hil
      have HLS : Hid (res = some (st, out)) := by
        have h3 := HI.out.last hnl
        rw [HSB.out, HRES.out] at h3
        exact h3
      obtain ⟨fo, n1, n2⟩ := HE.out.nodes
      have HN1 := Lib.hid n1
      have HN2 := Lib.hid n2
      obtain ⟨avo, cvo, rfl, hcvo, _⟩ := owns_form n1
      have HRG := Lib.hid (HE.out.outs.range (i := 0) (n := 1) (xs := [.slice avo out.length cvo]) rfl)
      have HR4 := Lib.hid HE.out.r4
      rw [HL.out]
      clear n1 n2
      go_wp2_with (first | (refine wpList_load_mid rfl 24 _ rfl b9 0 rfl [.slice avo out.length cvo] _ HRG.out Try.underlying24 rfl sz_NetE ?_) | (refine wpList_storeB rfl 24 _ _ rfl b4 0 [.slice avo out.length cvo] rfl rfl HR4.out (Nat.le_of_ble_eq_true rfl) sz_NetE rfl ?_))
      refine Named.mk (fun W2 hW2 => ?_)
      have hf2 : Fr (fun q => q = b4) wr W2 := by rw [hW2]; exact Fr.setRX b4 _ 0 _
      have H4 : Hid (Holds W2 b4 24 [.slice avo out.length cvo]) := HR4.out.stored hW2 (Nat.le_of_ble_eq_true rfl)
      have HF2 := Lib.hid hf2
      clear hW2 hf2 HRG
      go_wp2
      refine bodyPost_ret (results_epl H4.out rfl) rfl ?_
      rw [HLS.out]
      have hb := HE.out.below
      rw [← HB4.out] at hb
      have hkp : Keep (fun k => b4 ≤ k ∧ k ≠ b4) wr W2 := fun k hk hs => HF2.out.block k hs hk.2
      have hfr : ∀ {k : Nat}, b4 ≤ k ∧ k ≠ b4 → From w.heap.size k := fun hk => by show _ ≤ _; rw [HB4.out]; exact hk.1
      have own : ∀ {t : TypeId} {sz : Nat} {v : Value} {n : Nat} {f : List Value}, wr.ownsRow b4 t sz v n f → t ≠ 24 → RowL (From w.heap.size) W2 sz v n f := fun hr ht =>
        ((RowL.of_owns2 (P := fun k => b4 ≤ k ∧ k ≠ b4) hr fun g hg => ⟨owns_ge hr g hg, fun e => owns_ne_holds hr HR4.out ht (by rw [← e]; exact hg)⟩).up hkp).mono fun k hk _ => hfr hk
      have hs := own HE.out.row (by decide)
      refine ⟨hb.trans (HF2.out.to_below hb.size fun q hq he => by rw [HB4.out] at hq; have he : q = b4 := he; omega), _, _, rfl, ⟨fo, own HN1.out (by decide), LsF.mono (fun _ _ => NodeF.mono fun k hk _ => hfr hk) _ (LsF.up (fun _ _ => oneNode.up hkp) _ (LsF.mono (fun _ _ => NodeF.mono fun k hk _ => ⟨(HE.out.far k hk).1, (HE.out.far k hk).2.1⟩) _ HN2.out))⟩, ?_⟩
      rw [HL.out] at hs
      rw [HL.out]
      exact hs
end Go.Proofs.Ytpednhcfkjjcpaa.G
