/- The walk of the statements' own: a graph copied whole. -/
import Derived.Test.YtcedenoicmpjmaaMs1
namespace Go.Proofs.Ytcedenoicmpjmaa
open Go.RowKit
set_option linter.unusedVariables false
set_option linter.unusedSimpArgs false

def OwnPost (N : PNet) (w : World) (e : Ending) (w' : World) : Prop := Below w.heap.size w w' ∧ ∃ vn, e = .returned (.agg #[vn]) ∧ NetV (From w.heap.size) w' vn N ∧ (0 < N.length → SN (From w.heap.size) w' vn)
theorem SN.up {R : Nat → Prop} {w w' : World} (hu : Keep R w w') {v : Value} (h : SN R w v) : SN R w' v := by
  obtain ⟨g, n, c, cs, h1, h2, h3, h4, h5, h6, h7⟩ := h
  exact ⟨g, n, c, cs, h1, h2, h3, h4, h5.of_eq (hu g h4 h5.lt), h6, fun i hi => by obtain ⟨va, q1, q2⟩ := h7 i hi; exact ⟨va, q1, q2.up hu⟩⟩
theorem SN.mono {R R' : Nat → Prop} {w : World} (hl : Wide R R' w) {v : Value} (h : SN R w v) : SN R' w v := by
  obtain ⟨g, n, c, cs, h1, h2, h3, h4, h5, h6, h7⟩ := h
  exact ⟨g, n, c, cs, h1, h2, h3, hl g h4 h5.lt, h5, h6, fun i hi => by obtain ⟨va, q1, q2⟩ := h7 i hi; exact ⟨va, q1, q2.mono hl⟩⟩
theorem LsF.imp {A : Type} {F G : (Nat → Prop) → World → A → List Value → Prop} {P Q : Nat → Prop} {w : World} (hF : ∀ a c, F P w a c → G Q w a c) : ∀ (l : List A) {f : List Value}, LsF F P w l f → LsF G Q w l f
  | [], f, h => h
  | a :: l, f, ⟨c, r, h1, h2, h3⟩ => ⟨c, r, h1, hF a c h2, LsF.imp hF l h3⟩
theorem netG {P : Nat → Prop} {w : World} {l : PNet} {v : Value} {base S : Nat} {fo : List Value} (hr : w.ownsRow S 53 5 v l.length fo) (hfo : LsF NodeG P w l fo) (hP : ∀ k, P k → base ≤ k) (hS : base ≤ S) (hn : l.length ≤ 1000000000) : NetV (From base) w v l ∧ (0 < l.length → SN (From base) w v) := by
  refine ⟨⟨fo, RowL.of_owns hr fun k hk => Nat.le_trans hS hk, LsF.imp (fun _ _ h => h.1.mono fun k hk _ => hP k hk) _ hfo⟩, fun hpos => ?_⟩
  have hlen := hr.1
  rcases hr.2 with ⟨_, h0⟩ | ⟨g, cap, cur, rfl, hb, hg, hnc, hcm, hcs, ht⟩
  · omega
  · refine ⟨g, _, _, cur.toList, rfl, hnc, hn, Nat.le_trans hS hb, by unfold Holds; simpa using hg, by
      have h7 := Nat.mul_le_mul_right 5 hnc
      rw [← hcs] at h7
      simpa using h7, fun i hi => ?_⟩
    obtain ⟨c, h1, h2⟩ := LsF.at (fun a c => oneNodeG.len) hi hfo
    obtain ⟨va, h3, h4⟩ := h1.2
    refine ⟨va, ?_, h4.mono fun k hk _ => hP k hk⟩
    have h5 := h2 0 (by omega)
    rw [h3, Nat.add_zero] at h5
    rw [← h5, ← ht, List.getElem?_take_of_lt (by omega)]
theorem ls_one {A : Type} {F : (Nat → Prop) → World → A → List Value → Prop} {n : Nat} (H : One F n) {P : Nat → Prop} {w : World} : ∀ {l : List A} {f : List Value}, LsF F P w l f → ∀ u ∈ f, u.oneCell' = true
  | [], f, h, u, hu => by
    obtain rfl := h
    cases hu
  | a :: l, f, ⟨c, r, h1, h2, h3⟩, u, hu => by
    rw [h1] at hu
    rcases List.mem_append.1 hu with hu | hu
    · exact List.all_eq_true.1 (H.one h2) u hu
    · exact ls_one H h3 u hu
set_option maxHeartbeats 4000000 in
set_option maxRecDepth 100000 in
theorem ownFn {P : Nat → Prop} {w : World} {N : PNet} {v : Value} (hv : NetV P w v N) (hs : Small N) : Calls Try.prog 7 #[.agg #[v]] w (OwnPost N w) := by
  have hv := hv.mono (Q := fun k => k < w.heap.size) (fun k _ hk => hk)
  obtain ⟨f, hr, hg⟩ := hv
  obtain ⟨a0, k0, rfl, hk0, _, _⟩ := hr.form
  obtain ⟨M, hM⟩ : ∃ M, N.length = M := ⟨_, rfl⟩
  have HM := Lib.hid hM
  rw [hM] at hk0 ⊢
  obtain ⟨w2, hw2⟩ : ∃ W, W = (w.alloc (.cells #[.slice a0 M k0] 24)).alloc (.cells #[.slice none 0 0] 24) := ⟨_, rfl⟩
  obtain ⟨w3, hw3⟩ : ∃ W, W = w2.alloc (.cells #[.slice none 0 0] 24) := ⟨_, rfl⟩
  have hs2 : w2.heap.size = w.heap.size + 1 + 1 := by rw [hw2]; simp
  have hb2 : Below w.heap.size w w2 := by rw [hw2]; exact ((Below.refl _ _).alloc (Nat.le_refl _) _).alloc (by simp) _
  have h1 : Holds w2 w.heap.size 24 [.slice a0 M k0] := by rw [hw2]; exact (Holds.new w 24 #[.slice a0 M k0]).alloc _
  have h2 : Holds w2 (w.heap.size + 1) 24 [.slice none 0 0] := by
    have h := Holds.new (w.alloc (.cells #[.slice a0 M k0] 24)) 24 #[.slice none 0 0]
    simp only [World.size_alloc] at h
    rw [hw2]; exact h
  have HT3 : Hid (OwnO (w.heap.size + 1 + 1) (w.heap.size + 1 + 1) w2 [] (.slice none 0 0) w3) := by
    rw [hw3, ← hs2]
    exact ⟨(Below.refl _ _).alloc (Nat.le_refl _) _, ⟨Nat.le_refl _, Nat.le_refl _⟩, Holds.new w2 24 #[.slice none 0 0], [], ⟨rfl, .inl ⟨rfl, rfl⟩⟩, rfl⟩
  have HB2 := Lib.hid hb2
  have H1 := Lib.hid h1
  have H2 := Lib.hid h2
  have HRN := Lib.hid (hr.up (Keep.below hb2))
  have HGN := Lib.hid (LsF.up (fun _ _ => oneNode.up (Keep.below hb2)) _ hg)
  have HS2 := Lib.hid hs2
  have hm := hs.nodes
  rw [hM] at hm
  clear hr hg hb2 h1 h2 hM
  go_enter Try.func7, Try.ntmps7
  go_wp2
  rw [← hw2, ← hw3]
  clear hw2 hw3 hs2
  obtain ⟨b1, hb1e⟩ : ∃ b, w.heap.size = b := ⟨_, rfl⟩
  have HB1E := Lib.hid hb1e
  rw [hb1e] at HT3 H1 H2 HS2 ⊢
  clear hb1e
  obtain ⟨S2, hS2⟩ : ∃ b, b1 + 1 + 1 = b := ⟨_, rfl⟩
  have HSE := Lib.hid hS2
  rw [hS2] at HT3 HS2 ⊢
  clear hS2
  go_loopw [4] (fun x wr => ∃ (i : Nat) (vt : Value), x = .int .i64 (i : Int) ∧ i ≤ M ∧ Hid (OwnO S2 S2 w2 (N.take i) vt wr)) (fun x _ => M - (intOf x).toNat)
  case atStart => exact ⟨0, .slice none 0 0, rfl, Nat.zero_le _, HT3.out⟩
  case round =>
    clear HT3
    obtain ⟨i, vt, hx, hi, HT⟩ := hrel
    subst hx
    have hbl : Below w2.heap.size w2 wr := HT.out.below.mono (by rw [HS2.out]; exact Nat.le_refl _)
    have HBL := Lib.hid hbl
    have g12 := (H1.out.belowAll hbl).cell 0
    simp only [List.getElem?_cons_zero] at g12
    clear hbl
    by_cases hin : i < M
    · have hi2i : (i : Int) < (M : Int) := by omega
      have hi0i : (0 : Int) ≤ (i : Int) := by omega
      have hwii : IntKind.i64.wrap (i : Int) = (i : Int) := by rw [IntKind.wrap_i64]; omega
      have hwji : IntKind.i64.wrap ((i : Int) + 1) = (i : Int) + 1 := by rw [IntKind.wrap_i64]; omega
      have hil : i < N.length := by rw [HM.out]; exact hin
      obtain ⟨gb, ob, cb, c, he1, hG1, hr1⟩ := (HRN.out.up (Keep.below HBL.out)).atN oneNode (LsF.up (fun _ _ => oneNode.up (Keep.below HBL.out)) _ HGN.out) hil
      injection he1 with he1 hmid he1'
      subst he1 he1'
      clear hmid
      have hl1 := oneNode.len hG1
      have hs1 : (Try.prog.info? 53).map (·.size) = some c.length := by rw [hl1]; exact sz_Node
      have HO1 := Lib.hid (oneNode.one hG1)
      have HZ := Lib.hid (Holds.new wr 53 #[.slice none 0 0, .int .u64 0, .bool false, .bool false, .bool false])
      have HR1 := Lib.hid hr1
      have HG1 := Lib.hid hG1
      clear hr1 hG1
      go_wp2_with (first | (refine wpList_load_mid rfl 53 _ rfl gb (ob + i * 5) rfl c _ HR1.out Try.underlying53 rfl hs1 ?_) | (refine wpList_storeB rfl 53 _ _ rfl wr.heap.size 0 c rfl rfl HZ.out (by rw [hl1]; exact Nat.le_of_ble_eq_true rfl) hs1 HO1.out ?_))
      refine Named.mk (fun w7 hW => ?_)
      have hB7 : Below wr.heap.size wr w7 := by rw [hW]; exact Below.far (Below.refl _ _) (Nat.le_refl _) _ _ _
      have hD7 := HZ.out.stored hW (by rw [hl1]; exact Nat.le_of_ble_eq_true rfl)
      rw [List.take_zero, List.nil_append, List.drop_of_length_le (by rw [hl1]; exact Nat.le_of_ble_eq_true rfl), List.append_nil] at hD7
      have hG7 := oneNode.up (Keep.below hB7) HG1.out
      have HB7 := Lib.hid hB7
      obtain ⟨x, hxx⟩ : ∃ x, N[i] = x := ⟨_, rfl⟩
      rw [hxx] at hG7
      have HXX := Lib.hid hxx
      obtain ⟨va, rfl, f6, r6, g6⟩ := hG7
      have hD7 : Holds w7 wr.heap.size 53 (nodeC va x) := hD7
      obtain ⟨a6, k6, rfl, hk6, hk6', _⟩ := r6.form
      have HD7 := Lib.hid hD7
      have HKS : Hid (x.arcs.length ≤ 2000000) := by
        have h3 := node_le hil
        have h4 := hs.arcs
        rw [hxx] at h3
        show _ ≤ _
        omega
      have HSM : Hid (∀ a ∈ x.arcs, a.reads.length ≤ 2000000 ∧ a.writes.length ≤ 2000000) := fun a ha => hs.mem (List.getElem_mem hil) (by rw [hxx]; exact ha)
      have HF6 : Hid (f6.length = x.arcs.length * 6) := by
        obtain ⟨_, _, _, _, _, h3, _⟩ := r6
        exact h3
      have HON6 : Hid (∀ u ∈ f6, u.oneCell' = true) := ls_one oneArc g6
      have HR6 := Lib.hid r6
      have HG6 := Lib.hid g6
      clear hW hB7 HZ HR1 HG1 hl1 hs1 HO1 hxx
      obtain ⟨K, hK⟩ : ∃ K, x.arcs.length = K := ⟨_, rfl⟩
      have HK := Lib.hid hK
      rw [hK] at HD7 HKS hk6 HR6 HF6
      have hD70 := HD7.out.cell 0
      simp only [nodeC, List.getElem?_cons_zero] at hD70
      have hks := HKS.out
      have hwK : IntKind.i64.wrap ((K : Int) + 1) = (K : Int) + 1 := by rw [IntKind.wrap_i64]; omega
      clear hK hD7 r6 g6
      go_wp2_with (refine wpList_makeL rfl _ _ _ rfl 55 6 80 Try.underlying51 info_arc .i64 .i64 ((K : Int) + 1) ((K : Int) + 1) (K + 1) rfl rfl (by omega) (by omega) (by omega) (by unfold maxLen; omega) ?_)
      intro w8 hm8 hb8
      obtain ⟨cur, hd8, hlen8⟩ := hm8.out
      have HD8 := Lib.hid hd8
      have HL8 := Lib.hid hlen8
      have HB8 := Lib.hid hb8
      have HD78 := Lib.hid (HD7.out.belowAll hb8)
      have hD70 := HD78.out.cell 0
      simp only [nodeC, List.getElem?_cons_zero] at hD70
      obtain ⟨gA, hgA⟩ : ∃ g, w7.heap.size = g := ⟨_, rfl⟩
      have HGA := Lib.hid hgA
      rw [hgA] at HD8 ⊢
      clear hm8 hd8 hlen8 hb8 hgA
      go_wp2_with (refine wpList_copyL rfl (.tmp 25) (.tmp 27) _ _ rfl 55 6 Try.underlying51 sz_Arc gA (K + 1) (K + 1) K rfl (.slice a6 K k6) rfl f6 (HR6.out.up (Keep.below HB8.out)) (by omega) cur HD8.out (by rw [HF6.out, HL8.out]; omega) HON6.out ?_)
      intro w9 hc9 hf9
      have hcp := hc9.out
      obtain ⟨cs0, hcs0⟩ : ∃ c, f6 ++ cur.drop f6.length = c := ⟨_, rfl⟩
      have hi0 : InO wr.heap.size gA x.arcs w9 0 (f6 ++ cur.drop f6.length) w9 := InO.start (HG6.out) (by rw [HF6.out, HK.out]) (by rw [HL8.out, HK.out]) hcp
      rw [hcs0] at hi0
      have HI0 := Lib.hid hi0
      have hb79 : Below w7.heap.size w7 w9 := HB8.out.trans (hf9.to_below HB8.out.size fun q hq e => by have := HGA.out; omega)
      have HB79 := Lib.hid hb79
      have h5A : wr.heap.size < gA := by rw [← HGA.out]; exact HD7.out.lt
      have HD79 := Lib.hid (hf9.holds HD78.out (by omega))
      have hgA0 : wr.heap.size ≤ gA := Nat.le_of_lt h5A
      clear hc9 hf9 hcp hi0 hb79 hcs0 hD70
      go_wp2_with (fail)
      obtain ⟨wo, rfl⟩ : ∃ W, W = wr := ⟨_, rfl⟩
      go_loopw [7] (fun y wr => ∃ (k : Nat) (cs : List Value), y = .int .i64 (k : Int) ∧ k ≤ K ∧ Hid (InO wo.heap.size gA x.arcs w9 k cs wr)) (fun y _ => K - (intOf y).toNat)
      case atStart => exact ⟨0, cs0, rfl, Nat.zero_le _, HI0.out⟩
      case round =>
        clear HI0
        obtain ⟨k, cs, hy, hk, HI⟩ := hrel
        subst hy
        have hbi : Below w7.heap.size w7 wr := HB79.out.trans (HI.out.fr.to_below HB79.out.size fun q hq e => by have := HGA.out; omega)
        have HBI := Lib.hid hbi
        have HD7i := Lib.hid (HI.out.fr.holds HD79.out (by omega))
        have hd0 := HD7i.out.cell 0
        simp only [nodeC, List.getElem?_cons_zero] at hd0
        clear hbi
        by_cases hkK : k < K
        · have hjl : k < x.arcs.length := by rw [HK.out]; exact hkK
          have hk0 : (0 : Int) ≤ (k : Int) := by omega
          have hk2 : (k : Int) < (K : Int) := by omega
          have hk3 : (k : Int) < (K : Int) + 1 := by omega
          have hwk : IntKind.i64.wrap (k : Int) = (k : Int) := by rw [IntKind.wrap_i64]; omega
          have hwk1 : IntKind.i64.wrap ((k : Int) + 1) = (k : Int) + 1 := by rw [IntKind.wrap_i64]; omega
          have hra := HR6.out
          rw [← HK.out] at hra
          obtain ⟨gb6, ob6, cb6, c, he2, hG2, hr2⟩ := (hra.up (Keep.below HBI.out)).atN oneArc (LsF.up (fun _ _ => oneArc.up (Keep.below HBI.out)) _ HG6.out) hjl
          rw [HK.out] at he2
          injection he2 with he2 hmid he2'
          subst he2 he2'
          clear hmid hra
          obtain ⟨a, haa⟩ : ∃ a, x.arcs[k] = a := ⟨_, rfl⟩
          rw [haa] at hG2
          have HAA := Lib.hid haa
          have hsm := HSM.out a (by rw [← haa]; exact List.getElem_mem hjl)
          obtain ⟨vr, vw, rfl, q1, q2⟩ := hG2
          have cr := hr2 3 vr rfl
          have cw := hr2 4 vw rfl
          have HQ1 := Lib.hid q1
          have HQ2 := Lib.hid q2
          have HCW := Lib.hid cw
          have HSA := Lib.hid hsm
          have hclen := HI.out.len
          rw [HK.out] at hclen
          have HCL := Lib.hid hclen
          have hcb := HI.out.box.lt
          have h7s : w7.heap.size ≤ wr.heap.size := HBI.out.size
          have h67 : gb6 < w7.heap.size ∨ True := .inr trivial
          clear hr2 q1 q2 cw haa hsm hclen
          go_wp2_with (fail)
          refine (listFn HQ1.out HSA.out.1).mono ?_
          rintro e w10 ⟨hb10, g10, rfl, hge10, hh10⟩
          have HI10 := Lib.hid (HI.out.below hb10)
          have HL10 : Hid (LsI wo.heap.size w10 a.reads (.slice (some ⟨g10, 0, none⟩) a.reads.length (a.reads.length + 1))) := ⟨g10, rfl, by omega, hh10⟩
          have hl3 : k * 6 + 3 < cs.length := by rw [HCL.out]; omega
          have hl4 : k * 6 + 4 < cs.length := by rw [HCL.out]; omega
          have HQ210 := Lib.hid (HQ2.out.up (Keep.below hb10))
          have HD10 := Lib.hid (HD7i.out.belowAll hb10)
          have HB10 := Lib.hid (HBI.out.trans (hb10.mono HBI.out.size))
          clear hb10 hh10 HQ1 cr hd0
          go_wp2_with (refine wpList_store1 rfl 44 _ _ rfl gA (k * 6 + 3) (.slice (some ⟨g10, 0, none⟩) a.reads.length (a.reads.length + 1)) rfl rfl HI10.out.box hl3 sz_Ints rfl rfl ?_)
          refine Named.mk (fun w11 hw11 => ?_)
          have hf11 : Fr (fun q => q = gA) w10 w11 := by rw [hw11]; exact Fr.setRX gA _ (k * 6 + 3) w10
          have hbx11 : Holds w11 gA 55 (cs.set (k * 6 + 3) (.slice (some ⟨g10, 0, none⟩) a.reads.length (a.reads.length + 1))) := by rw [hw11]; exact HI10.out.box.put _ _
          have HL11 := Lib.hid (HL10.out.fr HI10.out.box hf11)
          have HD11 := Lib.hid (hf11.holds HD10.out (by omega))
          have HB11 := Lib.hid (HB10.out.trans (hf11.to_below HB10.out.size fun q hq e => by have := HGA.out; omega))
          have HF11 := Lib.hid hf11
          have HX11 := Lib.hid hbx11
          have hd0 := HD11.out.cell 0
          simp only [nodeC, List.getElem?_cons_zero] at hd0
          have hra := HR6.out
          rw [← HK.out] at hra
          obtain ⟨gb7, ob7, cb7, c, he3, hG3, hr3⟩ := (hra.up (Keep.below HB11.out)).atN oneArc (LsF.up (fun _ _ => oneArc.up (Keep.below HB11.out)) _ HG6.out) hjl
          injection he3 with he3 hmid he3'
          injection he3 with he3
          injection he3 with he3 he4
          subst he3 he4 he3'
          clear hmid hra
          rw [HAA.out] at hG3
          obtain ⟨vr2, vw2, rfl, q3, q4⟩ := hG3
          have cw := hr3 4 vw2 rfl
          have HQ4 := Lib.hid q4
          clear hw11 hf11 hbx11 q3 q4 hr3 HL10 HD10 HB10
          go_wp2_with (fail)
          refine (listFn HQ4.out HSA.out.2).mono ?_
          rintro e w12 ⟨hb12, g12b, rfl, hge12, hh12⟩
          have HX12 := Lib.hid (HX11.out.belowAll hb12)
          have hl42 : k * 6 + 4 < (cs.set (k * 6 + 3) (.slice (some ⟨g10, 0, none⟩) a.reads.length (a.reads.length + 1))).length := by rw [List.length_set]; exact hl4
          have hs11 : wo.heap.size ≤ w11.heap.size := by have := HB11.out.size; have := HD7.out.lt; omega
          have HL12 : Hid (LsI wo.heap.size w12 a.writes (.slice (some ⟨g12b, 0, none⟩) a.writes.length (a.writes.length + 1))) := ⟨g12b, rfl, by omega, hh12⟩
          have HR12 := Lib.hid (HL11.out.below hb12)
          have HF12 : Hid (Fr (fun q => q = gA) w10 w12) := HF11.out.trans (Fr.of_below hb12 _) fun _ _ h => h
          clear hb12 hh12 HQ4 cw hd0 HL11
          go_wp2_with (refine wpList_store1 rfl 44 _ _ rfl gA (k * 6 + 4) (.slice (some ⟨g12b, 0, none⟩) a.writes.length (a.writes.length + 1)) rfl rfl HX12.out hl42 sz_Ints rfl rfl ?_)
          refine Named.mk (fun w13 hw13 => ?_)
          have hf13 : Fr (fun q => q = gA) w12 w13 := by rw [hw13]; exact Fr.setRX gA _ (k * 6 + 4) w12
          have HI13 : Hid (InO wo.heap.size gA x.arcs w9 (k + 1) ((cs.set (k * 6 + 3) (.slice (some ⟨g10, 0, none⟩) a.reads.length (a.reads.length + 1))).set (k * 6 + 4) (.slice (some ⟨g12b, 0, none⟩) a.writes.length (a.writes.length + 1))) w13) := by
            refine HI10.out.step hjl (HF12.out.trans hf13 fun _ _ h => h) (by rw [hw13]; exact HX12.out.put _ _) ?_ ?_
            · rw [HAA.out]; exact HR12.out.fr HX12.out hf13
            · rw [HAA.out]; exact HL12.out.fr HX12.out hf13
          clear hw13 hf13 HX12 HL12 HR12 HF12 HX11 HF11 HI10 HI
          go_wp2
          go_roundw
          case rel => exact ⟨k + 1, _, by simp, by omega, HI13.out⟩
          case measure => (simp [intOf]) <;> omega
        · obtain rfl : k = K := by omega
          have hk0 : (0 : Int) ≤ (k : Int) := by omega
          have hk3 : (k : Int) < (k : Int) + 1 := by omega
          have hk4 : (k : Int) ≤ (k : Int) + 1 := by omega
          have hwk : IntKind.i64.wrap (k : Int) = (k : Int) := by rw [IntKind.wrap_i64]; omega
          have hclen := HI.out.len
          rw [HK.out] at hclen
          have HCL := Lib.hid hclen
          have hl0 : k * 6 < cs.length := by rw [hclen]; omega
          obtain ⟨fo, hro, hfo⟩ := HT.out.row
          have hlo : (N.take i).length = i := by rw [List.length_take, HM.out]; omega
          obtain ⟨avt, cvt, hvt, hcvt, _⟩ := owns_form hro
          rw [hlo] at hvt hro
          subst hvt
          have HLO := Lib.hid hlo
          have HRO := Lib.hid hro
          have HFO := Lib.hid hfo
          have hS2 : S2 ≤ wo.heap.size := by have h4 := HBL.out.size; rw [HS2.out] at h4; exact h4
          clear hro hfo hlo hclen
          go_wp2_with (refine wpList_store1 rfl 3 _ _ rfl gA (k * 6) (.int .i64 77) rfl rfl HI.out.box hl0 sz_Int rfl rfl ?_)
          refine Named.mk (fun w14 hw14 => ?_)
          have hf14 : Fr (fun q => q = gA) wr w14 := by rw [hw14]; exact Fr.setRX gA _ (k * 6) wr
          have hbx14 : Holds w14 gA 55 (cs.set (k * 6) (.int .i64 77)) := by rw [hw14]; exact HI.out.box.put _ _
          have HX14 := Lib.hid hbx14
          have HF14 := Lib.hid hf14
          have HD14 := Lib.hid (hf14.holds HD7i.out (by omega))
          have hd0 := HD14.out.cell 0
          simp only [nodeC, List.getElem?_cons_zero] at hd0
          clear hw14 hbx14 hf14
          go_wp2_with (refine wpList_store1 rfl 51 _ _ rfl wo.heap.size 0 (.slice (some ⟨gA, 0, none⟩) k (k + 1)) rfl rfl HD14.out (Nat.le_of_ble_eq_true rfl) sz_Arcs rfl rfl ?_)
          refine Named.mk (fun W8 hW8 => ?_)
          have hf8 : Fr (fun q => q = wo.heap.size) w14 W8 := by rw [hW8]; exact Fr.setRX _ _ 0 _
          have hD8 : Holds W8 wo.heap.size 53 (nodeC (.slice (some ⟨gA, 0, none⟩) k (k + 1)) x) := HD14.out.stored hW8 (Nat.le_of_ble_eq_true rfl)
          have h8 : Below wo.heap.size wo W8 := ((HB7.out.trans (HBI.out.mono HB7.out.size)).trans (HF14.out.to_below (Nat.le_trans HB7.out.size HBI.out.size) fun q hq e => by omega)).trans (hf8.to_below (Nat.le_trans (Nat.le_trans HB7.out.size HBI.out.size) HF14.out.size) fun q hq e => by omega)
          have hn8 : NodeG (fun q => wo.heap.size ≤ q) W8 x (nodeC (.slice (some ⟨gA, 0, none⟩) k (k + 1)) x) := by
            have hi2 := HI.out
            rw [← HK.out] at hi2
            have h3 := hi2.done (b5 := wo.heap.size) (W8 := W8) (cs' := cs.set (k * 6) (.int .i64 77)) hgA0 HSM.out (by rw [HK.out]; exact HKS.out) (by rw [HK.out, List.take_set_of_le (Nat.le_refl _)]) (by simp) (hf8.holds HX14.out (by omega)) ((HF14.out.mono fun _ _ h => .inl h).trans hf8 fun q _ hq => .inr hq) ⟨_, _, by decide, HD7i.out⟩
            rw [HK.out] at h3
            exact h3
          have h85 := (HT.out.box.belowAll h8).cell 0
          simp only [List.getElem?_cons_zero] at h85
          have HRG := Lib.hid (hD8.range (i := 0) (n := 5) (xs := [.slice (some ⟨gA, 0, none⟩) k (k + 1), .int .u64 (x.props : Int), .bool x.fin, .bool x.prog, .bool x.acc]) rfl)
          have HN8 := Lib.hid hn8
          have H8 := Lib.hid h8
          obtain ⟨i0, z0, hi0, hz0, hz1, hz2, hz3⟩ := info_of info_node
          clear hW8 hn8 hD8 hf8 h8 HD14 HX14 HF14 hd0 HI HD7i
          go_wp2_with (first | (refine wpList_load_mid rfl 53 _ rfl wo.heap.size 0 rfl [.slice (some ⟨gA, 0, none⟩) k (k + 1), .int .u64 (x.props : Int), .bool x.fin, .bool x.prog, .bool x.acc] _ HRG.out Try.underlying53 rfl sz_Node ?_) | (refine halt_call2 { callee := .builtin .append, args := #[.tmp 71, .tmp 73], argTypes := #[22, 22] } rfl ?_))
          refine Stop.mk ?_
          refine wpList_append_own_at _ rfl (.tmp 71) (.tmp 73) _ rfl S2 53 i0 z0 5 40 Try.underlying22 hi0 hz0 hz1 hz2 hz3 (by omega) (.slice avt i cvt) i fo rfl (owns_below (owns_below HRO.out H8.out) ((Below.refl _ _).alloc (Nat.le_refl _) _)) ⟨W8.heap.size, 0, none⟩ 1 1 [.slice (some ⟨gA, 0, none⟩) k (k + 1), .int .u64 (x.props : Int), .bool x.fin, .bool x.prog, .bool x.acc] rfl rfl ?c1 ?c2 ?c3 ?c4 ?c5 ?_
          case c1 => exact fun m u hu => by rw [Addr.add_lit, Nat.zero_add]; exact ((Holds.new W8 53 ([.slice (some ⟨gA, 0, none⟩) k (k + 1), .int .u64 (x.props : Int), .bool x.fin, .bool x.prog, .bool x.acc] : List Value).toArray).cell m).trans hu
          case c2 => exact List.all_eq_true.1 (oneNodeG.one HN8.out)
          case c3 => unfold maxLen; omega
          case c4 => omega
          case c5 => have := H8.out.size; simp; omega
          intro v' W9 hown hgrow _ hblk
          obtain ⟨av9, cv9, rfl, _, _⟩ := owns_form hown
          have h59 : Holds W9 S2 24 [.slice avt i cvt] := ((HT.out.box.belowAll H8.out).alloc _).of_eq (hgrow.block _ ((HT.out.box.belowAll H8.out).alloc (.cells ([.slice (some ⟨gA, 0, none⟩) k (k + 1), .int .u64 (x.props : Int), .bool x.fin, .bool x.prog, .bool x.acc] : List Value).toArray 53)).lt fun he => owns_ne_holds (owns_below HRO.out H8.out) (HT.out.box.belowAll H8.out) (by decide) he.symm)
          have H59 := Lib.hid h59
          have HOX := Lib.hid hown
          have HGW := Lib.hid hgrow
          have HBK := Lib.hid hblk
          clear hown hgrow hblk h59 h85 HRG
          go_wp2_with (refine wpList_store1 rfl 22 _ _ rfl S2 0 (.slice av9 (i + 1) cv9) rfl rfl H59.out (Nat.le_of_ble_eq_true rfl) sz_Nodes rfl rfl ?_)
          refine Named.mk (fun WZ hWZ => ?_)
          have HTZ : Hid (OwnO S2 S2 w2 (N.take (i + 1)) (.slice av9 (i + 1) cv9) WZ) := by
            show OwnO _ _ _ _ _ _
            rw [List.take_add_one, List.getElem?_eq_getElem hil, HXX.out]
            exact HT.out.app (by rw [HLO.out]; exact HRO.out) HFO.out H8.out HN8.out (by rw [HLO.out]; exact HOX.out) HGW.out HBK.out hWZ
          clear hWZ HOX HGW HBK H59 HN8 H8
          go_wp2
          go_roundw
          case rel => exact ⟨i + 1, .slice av9 (i + 1) cv9, by simp, by omega, HTZ.out⟩
          case measure => (simp [intOf]) <;> omega
    · obtain rfl : i = M := by omega
      have ht := HT.out
      rw [List.take_of_length_le (by rw [HM.out]; exact Nat.le_refl _)] at ht
      obtain ⟨fo, hro, hfo⟩ := ht.row
      obtain ⟨avt, cvt, rfl, hcvt, _⟩ := owns_form hro
      have c3 := ht.box.cell 0
      simp only [List.getElem?_cons_zero] at c3
      have HBX := Lib.hid ht.box
      have H2R := Lib.hid (H2.out.belowAll HBL.out)
      have hbS : b1 + 1 + 1 = S2 := HSE.out
      have HNV : Hid (NetV (From S2) wr (.slice avt N.length cvt) N ∧ (0 < N.length → SN (From S2) wr (.slice avt N.length cvt))) := netG hro hfo (fun q hq => hq.1) (Nat.le_refl _) (by rw [HM.out]; omega)
      have HBW : Hid (Below b1 w wr) := (by rw [HB1E.out.symm]; exact HB2.out.trans (HBL.out.mono HB2.out.size))
      have HSZ : Hid (b1 ≤ wr.heap.size) := by have h3 := HBW.out.size; have h4 := HB1E.out; show _ ≤ _; omega
      rw [HM.out] at c3 HBX HNV
      clear ht hro hfo hbS
      go_wp2_with (refine wpList_storeB rfl 24 _ _ rfl (b1 + 1) 0 [.slice avt i cvt] rfl rfl H2R.out (Nat.le_of_ble_eq_true rfl) sz_NetE rfl ?_)
      refine Named.mk (fun WZ hWZ => ?_)
      have hfz : Fr (fun q => q = b1 + 1) wr WZ := by rw [hWZ]; exact Fr.setRX _ _ 0 _
      have hdz : Holds WZ (b1 + 1) 24 [.slice avt i cvt] := H2R.out.stored hWZ (Nat.le_of_ble_eq_true rfl)
      have HDZ := Lib.hid hdz
      have HPZ : Hid (OwnPost N w (.returned (.agg #[.slice avt i cvt])) WZ) := by
        have hse := HSE.out
        have hk : Keep (From S2) wr WZ := fun q hq hs => hfz.block q hs (by have : S2 ≤ q := hq; omega)
        have hw : Wide (From S2) (From w.heap.size) WZ := fun q hq _ => by have : S2 ≤ q := hq; have := HB1E.out; show _ ≤ _; omega
        refine ⟨?_, _, rfl, ?_, ?_⟩
        · rw [HB1E.out]
          exact HBW.out.trans (hfz.to_below HSZ.out fun q hq e => by omega)
        · exact (HNV.out.1.up hk).mono hw
        · exact fun hp => ((HNV.out.2 (by rw [← HM.out]; exact hp)).up hk).mono hw
      clear hWZ hfz hdz c3 g12
      go_wp2
      refine bodyPost_ret (outBox Try.results7 HDZ.out rfl _ Try.underlying24 rfl sz_NetE) rfl ?_
      exact HPZ.out
end Go.Proofs.Ytcedenoicmpjmaa
