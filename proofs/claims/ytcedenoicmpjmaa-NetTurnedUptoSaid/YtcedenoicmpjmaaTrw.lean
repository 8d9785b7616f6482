/- The walk of NetTurned. -/
import Derived.Test.YtcedenoicmpjmaaTur
namespace Go.Proofs.Ytcedenoicmpjmaa
open Go.RowKit Go.Maps
set_option linter.unusedVariables false
set_option linter.unusedSimpArgs false

section
variable {P : Program} {ops : Array Oper} {Q : Exit → Act → World → Prop} {a : Act} {w : World} {rest : List Oper} {o : Oper}
theorem halt_call (c : Call) (ho : o.op = .call c) (h : Stop (wpList P ops Q (o :: rest) a w)) : wpList P ops Q (o :: rest) a w := h.out
end
set_option maxHeartbeats 8000000 in
set_option maxRecDepth 100000 in
theorem lawTurned {P : Nat → Prop} {w : World} {N : PNet} {v : Value} (hv : NetV P w v N) (hs : Small N) : Calls Try.prog 5 #[.agg #[v]] w (Yes w) := by
  have hv := hv.mono (Q := fun k => k < w.heap.size) (fun k _ hk => hk)
  obtain ⟨f, hr, hg⟩ := hv
  obtain ⟨a0, k0, rfl, _, _, _⟩ := hr.form
  obtain ⟨w0, hw0⟩ : ∃ W, W = w.alloc (.cells #[.slice a0 N.length k0] 24) := ⟨_, rfl⟩
  have hb0 : Below w.heap.size w w0 := by rw [hw0]; exact (Below.refl _ _).alloc (Nat.le_refl _) _
  have HB0 := Lib.hid hb0
  have HV0 := Lib.hid ((show NetV (fun k => k < w.heap.size) w (.slice a0 N.length k0) N from ⟨f, hr, hg⟩).up (Keep.below hb0))
  have H1 : Hid (Holds w0 w.heap.size 24 [.slice a0 N.length k0]) := by rw [hw0]; exact Holds.new w 24 #[.slice a0 N.length k0]
  clear hr hg hb0
  go_enter Try.func5, Try.ntmps5
  go_wp2_with (fail)
  rw [← hw0]
  clear hw0
  obtain ⟨b1, hb1e⟩ : ∃ b, w.heap.size = b := ⟨_, rfl⟩
  have HB1E := Lib.hid hb1e
  rw [hb1e] at H1 ⊢
  clear hb1e
  refine (ofFn HV0.out hs).mono ?_
  rintro e w2 ⟨hb2, h2⟩
  have HB2 : Hid (Below w.heap.size w w2) := HB0.out.trans (hb2.mono HB0.out.size)
  have H12 := Lib.hid (H1.out.belowAll hb2)
  have HVN := Lib.hid (HV0.out.up (Keep.below hb2))
  obtain ⟨M, hM⟩ : ∃ M, N.length = M := ⟨_, rfl⟩
  have HM := Lib.hid hM
  rw [hM] at H12 HVN
  have g12 := H12.out.cell 0
  simp only [List.getElem?_cons_zero] at g12
  clear hM
  by_cases hc : chk N = true
  · rw [if_pos hc] at h2
    obtain ⟨v2, rfl, hv2⟩ := h2
    have HV2 := Lib.hid (hv2.mono (Q := fun k => k < w2.heap.size) (fun k _ hk => hk))
    have HCK := Lib.hid hc
    clear hv2 hb2 hc H1 HV0 HB0
    by_cases hm : M < 20000
    · have d1 : decide ((20000 : Int) ≤ (M : Int)) = false := decide_eq_false (by omega)
      obtain ⟨w3, hw3⟩ : ∃ W, W = w2.alloc (.cells #[.slice none 0 0] 24) := ⟨_, rfl⟩
      have HT3 : Hid (TurO w2.heap.size w2.heap.size w2 [] (.slice none 0 0) w3) := by
        rw [hw3]
        exact ⟨(Below.refl _ _).alloc (Nat.le_refl _) _, ⟨Nat.le_refl _, Nat.le_refl _⟩, Holds.new w2 24 #[.slice none 0 0], [], ⟨rfl, .inl ⟨rfl, rfl⟩⟩, rfl⟩
      go_wp2_with (fail)
      rw [← hw3]
      obtain ⟨S2, hS2⟩ : ∃ b, w2.heap.size = b := ⟨_, rfl⟩
      have HSS := Lib.hid hS2
      rw [hS2] at HT3 ⊢
      clear hw3 hS2 g12
      obtain ⟨fN, hrN, hgN⟩ := HVN.out
      have HRN := Lib.hid hrN
      have HGN := Lib.hid hgN
      clear hrN hgN
      go_loopw [6] (fun x wr => ∃ (i : Nat) (vt : Value), x = .int .i64 (i : Int) ∧ i ≤ M ∧ Hid (TurO S2 S2 w2 ((N.take i).map revX) vt wr)) (fun x _ => M - (intOf x).toNat)
      case atStart => exact ⟨0, .slice none 0 0, rfl, Nat.zero_le _, HT3.out⟩
      case round =>
        clear HT3
        obtain ⟨i, vt, hx, hi, HT⟩ := hrel
        subst hx
        have hbl : Below w2.heap.size w2 wr := HT.out.below.mono (by rw [HSS.out]; exact Nat.le_refl _)
        have HBL := Lib.hid hbl
        have g12 := (H12.out.belowAll hbl).cell 0
        simp only [List.getElem?_cons_zero] at g12
        clear hbl
        by_cases hin : i < M
        · have hi2i : (i : Int) < (M : Int) := by omega
          have hi0i : (0 : Int) ≤ (i : Int) := by omega
          have hwii : IntKind.i64.wrap (i : Int) = (i : Int) := by rw [IntKind.wrap_i64]; omega
          have hwji : IntKind.i64.wrap ((i : Int) + 1) = (i : Int) + 1 := by rw [IntKind.wrap_i64]; omega
          have hil : i < N.length := by rw [HM.out]; exact hin
          obtain ⟨gb, ob, cb, c, he1, hG1, hr1⟩ := (HRN.out.up (Keep.below HBL.out)).atN oneNode (LsF.up (fun _ _ => oneNode.up (Keep.below HBL.out)) _ HGN.out) hil
          injection he1 with he1 hmid he1'
          subst he1 he1'
          clear hmid
          have hl1 := oneNode.len hG1
          have hs1 : (Try.prog.info? 53).map (·.size) = some c.length := by rw [hl1]; exact sz_Node
          have HO1 := Lib.hid (oneNode.one hG1)
          have HZ := Lib.hid (Holds.new wr 53 #[.slice none 0 0, .int .u64 0, .bool false, .bool false, .bool false])
          have HR1 := Lib.hid hr1
          have HG1 := Lib.hid hG1
          clear hr1 hG1
          go_wp2_with (first | (refine wpList_load_mid rfl 53 _ rfl gb (ob + i * 5) rfl c _ HR1.out Try.underlying53 rfl hs1 ?_) | (refine wpList_storeB rfl 53 _ _ rfl wr.heap.size 0 c rfl rfl HZ.out (by rw [hl1]; exact Nat.le_of_ble_eq_true rfl) hs1 HO1.out ?_))
          refine Named.mk (fun w7 hW => ?_)
          have hB7 : Below wr.heap.size wr w7 := by rw [hW]; exact Below.far (Below.refl _ _) (Nat.le_refl _) _ _ _
          have hD7 := HZ.out.stored hW (by rw [hl1]; exact Nat.le_of_ble_eq_true rfl)
          rw [List.take_zero, List.nil_append, List.drop_of_length_le (by rw [hl1]; exact Nat.le_of_ble_eq_true rfl), List.append_nil] at hD7
          have hG7 := oneNode.up (Keep.below hB7) HG1.out
          have HB7 := Lib.hid hB7
          obtain ⟨x, hxx⟩ : ∃ x, N[i] = x := ⟨_, rfl⟩
          rw [hxx] at hG7
          have HXX := Lib.hid hxx
          obtain ⟨va, rfl, f6, r6, g6⟩ := hG7
          have hD7 : Holds w7 wr.heap.size 53 (nodeC va x) := hD7
          obtain ⟨a6, k6, rfl, hk6, hk6', _⟩ := r6.form
          have HD7 := Lib.hid hD7
          have HR6 := Lib.hid r6
          have HG6 := Lib.hid g6
          have HKS : Hid (x.arcs.length ≤ 2000000) := by
            have h3 := node_le hil
            have h4 := hs.arcs
            rw [hxx] at h3
            show _ ≤ _
            omega
          clear hW hB7 HZ HR1 HG1 hl1 hs1 HO1 hxx
          obtain ⟨K, hK⟩ : ∃ K, x.arcs.length = K := ⟨_, rfl⟩
          have HK := Lib.hid hK
          rw [hK] at HD7 HKS hk6
          have hD70 := HD7.out.cell 0
          simp only [nodeC, List.getElem?_cons_zero] at hD70
          have hks := HKS.out
          have hw1 : IntKind.i64.wrap ((K : Int) - 1) = (K : Int) - 1 := by rw [IntKind.wrap_i64]; omega
          have HTI : Hid (TurI S2 w7.heap.size (x.arcs.reverse.take 0) w7 (.slice none 0 0) w7) := ⟨Below.refl _ _, ⟨Nat.le_refl _, by have h3 := HB7.out.size; have h4 := HBL.out.size; rw [HSS.out] at h4; omega⟩, [], ⟨rfl, .inl ⟨rfl, rfl⟩⟩, rfl⟩
          clear hK hD7 r6 g6
          go_wp2_with (fail)
          obtain ⟨wo, rfl⟩ : ∃ W, W = wr := ⟨_, rfl⟩
          go_loopw [8, 9] (fun l k wr => ∃ (j : Nat) (vl : Value), l = vl ∧ k = .int .i64 ((K : Int) - 1 - (j : Int)) ∧ j ≤ K ∧ Hid (TurI S2 w7.heap.size (x.arcs.reverse.take j) w7 vl wr)) (fun _ k _ => (intOf k + 1).toNat)
          case atStart => exact ⟨0, .slice none 0 0, rfl, by simp, Nat.zero_le _, HTI.out⟩
          case round =>
            clear HTI
            obtain ⟨j, vl, hv1, hv2, hj, HT7⟩ := hrel
            obtain ⟨fl, hrl, hfl⟩ := HT7.out.row
            obtain ⟨al, cl, hvl, hcl, _⟩ := owns_form hrl
            have hlen : (x.arcs.reverse.take j).length = j := by rw [List.length_take, List.length_reverse, HK.out]; omega
            rw [hlen] at hvl hrl
            subst hv1
            obtain rfl := hvl
            have hbi := HT7.out.below
            have HBI := Lib.hid hbi
            have HLN := Lib.hid hlen
            have HRL := Lib.hid hrl
            have HFL := Lib.hid hfl
            have HD7i := Lib.hid (HD7.out.belowAll hbi)
            clear hbi hlen hrl hfl hD70
            by_cases hjk : j < K
            · obtain ⟨kk, hkk⟩ : ∃ kk : Nat, (K : Int) - 1 - (j : Int) = (kk : Int) := ⟨K - 1 - j, by omega⟩
              rw [hkk] at hv2
              subst hv2
              have hjl : kk < x.arcs.length := by rw [HK.out]; omega
              have hk0 : (0 : Int) ≤ (kk : Int) := by omega
              have hk2 : (kk : Int) < (K : Int) := by omega
              have hwk : IntKind.i64.wrap (kk : Int) = (kk : Int) := by rw [IntKind.wrap_i64]; omega
              have hwk1 : IntKind.i64.wrap ((kk : Int) - 1) = (kk : Int) - 1 := by rw [IntKind.wrap_i64]; omega
              have hd0 := HD7i.out.cell 0
              simp only [nodeC, List.getElem?_cons_zero] at hd0
              obtain ⟨gb6, ob6, cb6, c, he2, hG2, hr2⟩ := (HR6.out.up (Keep.below HBI.out)).atN oneArc (LsF.up (fun _ _ => oneArc.up (Keep.below HBI.out)) _ HG6.out) hjl
              injection he2 with he2 hmid he2'
              subst he2 he2'
              clear hmid
              obtain ⟨a, haa⟩ : ∃ a, x.arcs[kk] = a := ⟨_, rfl⟩
              rw [haa] at hG2
              have HAA := Lib.hid haa
              obtain ⟨vr, vw, rfl, q1, q2⟩ := hG2
              obtain ⟨a3, k3, rfl, _, _, _⟩ := q1.form
              obtain ⟨a4, k4, rfl, _, _, _⟩ := q2.form
              have HC2 : Hid (ArcF (fun k => k < S2) wr a [.int .i64 a.proc, .int .i64 a.to, .int .i64 a.bad, .slice a3 a.reads.length k3, .slice a4 a.writes.length k4, .int .u64 (a.turns : Int)]) := ⟨_, _, rfl, q1.mono fun k hk _ => Nat.lt_of_lt_of_le hk (by have := HB2.out.size; rw [HSS.out] at this; exact this), q2.mono fun k hk _ => Nat.lt_of_lt_of_le hk (by have := HB2.out.size; rw [HSS.out] at this; exact this)⟩
              have HR2 := Lib.hid hr2
              obtain ⟨i0, z0, hi0, hz0, hz1, hz2, hz3⟩ := info_of info_arc
              clear hr2 q1 q2 haa
              go_wp2_with (first | (refine wpList_load_mid rfl 55 _ rfl gb6 (ob6 + kk * 6) rfl [.int .i64 a.proc, .int .i64 a.to, .int .i64 a.bad, .slice a3 a.reads.length k3, .slice a4 a.writes.length k4, .int .u64 (a.turns : Int)] _ HR2.out Try.underlying55 rfl sz_Arc ?_) | (refine halt_call { callee := .builtin .append, args := #[.tmp 57, .tmp 63], argTypes := #[51, 51] } rfl ?_))
              refine Stop.mk ?_
              refine wpList_append_own_at _ rfl (.tmp 57) (.tmp 63) _ rfl w7.heap.size 55 i0 z0 6 80 Try.underlying51 hi0 hz0 hz1 hz2 hz3 (by omega) (.slice al j cl) j fl rfl (owns_below HRL.out ((Below.refl _ _).alloc (Nat.le_refl _) _)) ⟨wr.heap.size, 0, none⟩ 1 1 [.int .i64 a.proc, .int .i64 a.to, .int .i64 a.bad, .slice a3 a.reads.length k3, .slice a4 a.writes.length k4, .int .u64 (a.turns : Int)] rfl rfl ?c1 ?c2 ?c3 ?c4 ?c5 ?_
              case c1 => exact fun m u hu => by rw [Addr.add_lit, Nat.zero_add]; exact ((Holds.new wr 55 ([.int .i64 a.proc, .int .i64 a.to, .int .i64 a.bad, .slice a3 a.reads.length k3, .slice a4 a.writes.length k4, .int .u64 (a.turns : Int)] : List Value).toArray).cell m).trans hu
              case c2 => exact List.all_eq_true.1 (oneArc.one HC2.out)
              case c3 => unfold maxLen; omega
              case c4 => omega
              case c5 => have := HBI.out.size; simp; omega
              intro v' w8 hown hgrow _ hblk
              have HT8 : Hid (TurI S2 w7.heap.size (x.arcs.reverse.take (j + 1)) w7 v' w8) := by
                show TurI _ _ _ _ _ _
                rw [rev_step' (l := x.arcs) (a := a) (kk := kk) (by rw [HK.out]; omega) (by rw [HK.out]; omega) hjl HAA.out]
                exact HT7.out.step HFL.out (by rw [HLN.out]; exact HRL.out) HC2.out (by rw [HLN.out]; exact hown) hgrow
              clear hown hgrow hblk HT7 HRL HFL HLN HR2 HC2 hd0
              go_wp2
              go_roundw
              case rel => exact ⟨j + 1, v', rfl, by rw [← hkk]; congr 1; omega, by omega, HT8.out⟩
              case measure => (simp [intOf]) <;> omega
            · have hkk : (K : Int) - 1 - (j : Int) = -1 := by omega
              rw [hkk] at hv2
              subst hv2
              obtain rfl : j = K := by omega
              have htk : x.arcs.reverse.take j = x.arcs.reverse := List.take_of_length_le (by rw [List.length_reverse, HK.out]; exact Nat.le_refl _)
              have hti := HT7.out
              rw [htk] at hti
              have HTI := Lib.hid hti
              obtain ⟨fo, hro, hfo⟩ := HT.out.row
              have hlo : ((N.take i).map revX).length = i := by rw [List.length_map, List.length_take, HM.out]; omega
              obtain ⟨avt, cvt, hvt, hcvt, _⟩ := owns_form hro
              rw [hlo] at hvt hro
              subst hvt
              have HLO := Lib.hid hlo
              have HRO := Lib.hid hro
              have HFO := Lib.hid hfo
              have h8i : Below wo.heap.size wo wr := HB7.out.trans (HBI.out.mono HB7.out.size)
              have hb5 := HT.out.box.belowAll h8i
              have HB8I := Lib.hid h8i
              have HB5 := Lib.hid hb5
              obtain ⟨i0, z0, hi0, hz0, hz1, hz2, hz3⟩ := info_of info_node
              clear hti htk hro hfo hlo h8i hb5 HT7 HRL HFL HLN
              go_wp2_with (refine wpList_store1 rfl 51 _ _ rfl wo.heap.size 0 (.slice al j cl) rfl rfl HD7i.out (Nat.le_of_ble_eq_true rfl) sz_Arcs rfl rfl ?_)
              refine Named.mk (fun W8 hW8 => ?_)
              have hS2 : S2 ≤ wo.heap.size := by have h4 := HBL.out.size; rw [HSS.out] at h4; exact h4
              obtain ⟨hn8, hD8, hf8⟩ := HTI.out.node HD7i.out hS2 hW8 (lo := wo.heap.size) HB7.out.size
              have h8 : Below wo.heap.size wo W8 := HB8I.out.trans (hf8.to_below HB8I.out.size fun q hq he => by omega)
              have h85 := (HT.out.box.belowAll h8).cell 0
              simp only [List.getElem?_cons_zero] at h85
              have HRG := Lib.hid (hD8.range (i := 0) (n := 5) (xs := [.slice al j cl, .int .u64 (x.props : Int), .bool x.fin, .bool x.prog, .bool x.acc]) rfl)
              have HN8 := Lib.hid hn8
              have H8 := Lib.hid h8
              clear hW8 hn8 hD8 hf8 h8 HD7i HTI HB5 HB8I
              go_wp2_with (first | (refine wpList_load_mid rfl 53 _ rfl wo.heap.size 0 rfl [.slice al j cl, .int .u64 (x.props : Int), .bool x.fin, .bool x.prog, .bool x.acc] _ HRG.out Try.underlying53 rfl sz_Node ?_) | (refine halt_call { callee := .builtin .append, args := #[.tmp 68, .tmp 70], argTypes := #[22, 22] } rfl ?_))
              refine Stop.mk ?_
              refine wpList_append_own_at _ rfl (.tmp 68) (.tmp 70) _ rfl S2 53 i0 z0 5 40 Try.underlying22 hi0 hz0 hz1 hz2 hz3 (by omega) (.slice avt i cvt) i fo rfl (owns_below (owns_below HRO.out H8.out) ((Below.refl _ _).alloc (Nat.le_refl _) _)) ⟨W8.heap.size, 0, none⟩ 1 1 [.slice al j cl, .int .u64 (x.props : Int), .bool x.fin, .bool x.prog, .bool x.acc] rfl rfl ?c1 ?c2 ?c3 ?c4 ?c5 ?_
              case c1 => exact fun m u hu => by rw [Addr.add_lit, Nat.zero_add]; exact ((Holds.new W8 53 ([.slice al j cl, .int .u64 (x.props : Int), .bool x.fin, .bool x.prog, .bool x.acc] : List Value).toArray).cell m).trans hu
              case c2 => exact List.all_eq_true.1 (oneNode.one HN8.out)
              case c3 => unfold maxLen; omega
              case c4 => omega
              case c5 => have := H8.out.size; simp; omega
              intro v' W9 hown hgrow _ hblk
              obtain ⟨av9, cv9, rfl, _, _⟩ := owns_form hown
              have h59 : Holds W9 S2 24 [.slice avt i cvt] := ((HT.out.box.belowAll H8.out).alloc _).of_eq (hgrow.block _ ((HT.out.box.belowAll H8.out).alloc (.cells ([.slice al j cl, .int .u64 (x.props : Int), .bool x.fin, .bool x.prog, .bool x.acc] : List Value).toArray 53)).lt fun he => owns_ne_holds (owns_below HRO.out H8.out) (HT.out.box.belowAll H8.out) (by decide) he.symm)
              have H59 := Lib.hid h59
              have HOX := Lib.hid hown
              have HGW := Lib.hid hgrow
              have HBK := Lib.hid hblk
              clear hown hgrow hblk h59 h85 HRG
              go_wp2_with (refine wpList_store1 rfl 22 _ _ rfl S2 0 (.slice av9 (i + 1) cv9) rfl rfl H59.out (Nat.le_of_ble_eq_true rfl) sz_Nodes rfl rfl ?_)
              refine Named.mk (fun WZ hWZ => ?_)
              have HTZ : Hid (TurO S2 S2 w2 ((N.take (i + 1)).map revX) (.slice av9 (i + 1) cv9) WZ) := by
                show TurO _ _ _ _ _ _
                rw [List.take_add_one, List.getElem?_eq_getElem hil, HXX.out, List.map_append]
                exact HT.out.app (by rw [HLO.out]; exact HRO.out) HFO.out H8.out HN8.out (by rw [HLO.out]; exact HOX.out) HGW.out HBK.out hWZ
              clear hWZ HOX HGW HBK H59 HN8 H8
              go_wp2
              go_roundw
              case rel => exact ⟨i + 1, .slice av9 (i + 1) cv9, by simp, by omega, HTZ.out⟩
              case measure => (simp [intOf]) <;> omega
        · obtain rfl : i = M := by omega
          have htn : (N.take i).map revX = N.map revX := by rw [List.take_of_length_le (by rw [HM.out]; exact Nat.le_refl _)]
          have ht := HT.out
          rw [htn] at ht
          have hlo : (N.map revX).length = i := by rw [List.length_map, HM.out]
          obtain ⟨fo, hro, hfo⟩ := ht.row
          rw [hlo] at hro
          obtain ⟨avt, cvt, rfl, hcvt, _⟩ := owns_form hro
          have g5 := ht.box.cell 0
          simp only [List.getElem?_cons_zero] at g5
          have HTT := Lib.hid ht
          have HLO := Lib.hid hlo
          have HRO := Lib.hid hro
          have HFO := Lib.hid hfo
          have hS2 : S2 ≤ wr.heap.size := by have h4 := HBL.out.size; rw [HSS.out] at h4; exact h4
          obtain ⟨i0, z0, hi0, hz0, hz1, hz2, hz3⟩ := info_of info_node
          have hmi : i < 20000 := hm
          clear ht hlo hro hfo htn HT
          go_wp2_with (refine halt_call { callee := .builtin .append, args := #[.tmp 74, .tmp 76], argTypes := #[22, 22] } rfl ?_)
          refine Stop.mk ?_
          refine wpList_append_own_at _ rfl (.tmp 74) (.tmp 76) _ rfl S2 53 i0 z0 5 40 Try.underlying22 hi0 hz0 hz1 hz2 hz3 (by omega) (.slice avt i cvt) i fo rfl (owns_below HRO.out ((Below.refl _ _).alloc (Nat.le_refl _) _)) ⟨wr.heap.size, 0, none⟩ 1 1 [.slice none 0 0, .int .u64 77, .bool false, .bool false, .bool false] rfl rfl ?c1 ?c2 ?c3 ?c4 ?c5 ?_
          case c1 => exact fun m u hu => by rw [Addr.add_lit, Nat.zero_add]; exact ((Holds.new wr 53 ([.slice none 0 0, .int .u64 77, .bool false, .bool false, .bool false] : List Value).toArray).cell m).trans hu
          case c2 => simp [Value.oneCell']
          case c3 => unfold maxLen; omega
          case c4 => omega
          case c5 => simp; omega
          intro v' W9 hown hgrow _ hblk
          obtain ⟨av9, cv9, rfl, _, _⟩ := owns_form hown
          have h59 : Holds W9 S2 24 [.slice avt i cvt] := (HTT.out.box.alloc _).of_eq (hgrow.block _ (HTT.out.box.alloc (.cells ([.slice none 0 0, .int .u64 77, .bool false, .bool false, .bool false] : List Value).toArray 53)).lt fun he => owns_ne_holds HRO.out HTT.out.box (by decide) he.symm)
          have H59 := Lib.hid h59
          have HOX := Lib.hid hown
          have HGW := Lib.hid hgrow
          have HBK := Lib.hid hblk
          clear hown hgrow hblk h59 g5
          go_wp2_with (refine wpList_store1 rfl 22 _ _ rfl S2 0 (.slice av9 (i + 1) cv9) rfl rfl H59.out (Nat.le_of_ble_eq_true rfl) sz_Nodes rfl rfl ?_)
          refine Named.mk (fun WZ hWZ => ?_)
          have htz : TurO S2 S2 w2 (turnN N) (.slice av9 (i + 1) cv9) WZ := HTT.out.app (y := lastN) (by rw [HLO.out]; exact HRO.out) HFO.out (Below.refl _ _) ⟨_, rfl, [], RowL.nil _ _ _, rfl⟩ (by rw [HLO.out]; exact HOX.out) HGW.out HBK.out hWZ
          have HNZ := Lib.hid htz.net
          have HBZ : Hid (Below w2.heap.size w2 WZ) := htz.below.mono (by rw [HSS.out]; exact Nat.le_refl _)
          have g5 := htz.box.cell 0
          simp only [List.getElem?_cons_zero] at g5
          obtain ⟨st, g, st', g', ex1, ex2, hpos, hl2, hg1, hg2, hk1, hk2, hlaw⟩ := turned HCK.out (by rw [HM.out]; exact hm)
          have HEX1 := Lib.hid ex1
          have HEX2 := Lib.hid ex2
          have HLAW := Lib.hid hlaw
          have HCT := Lib.hid (turn_chk HCK.out (by rw [HM.out]; exact hm))
          have HTS := Lib.hid (turn_small hs HCK.out (by rw [HM.out]; exact hm))
          clear hWZ htz HOX HGW HBK H59 HTT HRO HFO ex1 ex2 hlaw HRN HGN HBL g12
          go_wp2_with (fail)
          refine (ofFn HNZ.out HTS.out).mono ?_
          rintro e w4 ⟨hb4, h4⟩
          rw [if_pos HCT.out] at h4
          obtain ⟨v4, rfl, hv4⟩ := h4
          have HB4 := Lib.hid (HBZ.out.trans (hb4.mono HBZ.out.size))
          have HV4 := Lib.hid hv4
          clear hb4 hv4 HBZ HNZ g5
          go_wp2_with (fail)
          refine (exploreFn (most := 20000) (HV2.out.up (Keep.below HB4.out)) HCK.out hs (by omega) (by omega)).mono ?_
          rintro e w5 ⟨hb5, h5⟩
          rw [HEX1.out] at h5
          obtain ⟨vn, vs, rfl, hvn, hvs⟩ := h5
          obtain ⟨L, hL⟩ : ∃ L, st.length = L := ⟨_, rfl⟩
          rw [hL] at hpos hl2 hg1 hg2 hvs
          obtain ⟨fg, hrg, hgg⟩ := hvn
          rw [hg1] at hrg
          obtain ⟨gg, og, cg, rfl⟩ := hrg.some hpos
          obtain ⟨ga, oa, ca, rfl⟩ := hvs.some hpos
          obtain ⟨w6, hw6⟩ : ∃ W, W = w5.alloc (.cells #[.slice (some ⟨gg, og, none⟩) L cg] 24) := ⟨_, rfl⟩
          have hb6 : Below w5.heap.size w5 w6 := by rw [hw6]; exact (Below.refl _ _).alloc (Nat.le_refl _) _
          have HB6 := Lib.hid (HB4.out.trans ((hb5.trans (hb6.mono hb5.size)).mono HB4.out.size))
          have HV46 := Lib.hid (HV4.out.up (Keep.below (hb5.trans (hb6.mono hb5.size))))
          have HRG6 := Lib.hid (hrg.up (Keep.below hb6))
          have HGG6 := Lib.hid (LsF.up (fun _ _ => oneNode.up (Keep.below hb6)) _ hgg)
          have HVS6 := Lib.hid (hvs.up (Keep.below hb6))
          have H126 : Hid (Holds w6 w5.heap.size 24 [.slice (some ⟨gg, og, none⟩) L cg]) := by rw [hw6]; exact Holds.new w5 24 #[.slice (some ⟨gg, og, none⟩) L cg]
          clear hb5 hb6 hrg hgg hvs HV4 HB4
          go_wp2_with (fail)
          rw [← hw6]
          clear hw6
          generalize w5.heap.size = b12 at *
          refine (exploreFn (most := 20000) HV46.out HCT.out HTS.out (by omega) (by omega)).mono ?_
          rintro e w7 ⟨hb7, h7⟩
          rw [HEX2.out] at h7
          obtain ⟨vn, vs, rfl, hvn, hvs⟩ := h7
          rw [hl2] at hvs
          obtain ⟨fh, hrh, hgh⟩ := hvn
          rw [hg2] at hrh
          obtain ⟨gh, oh, ch, rfl⟩ := hrh.some hpos
          obtain ⟨gc, oc, cc, rfl⟩ := hvs.some hpos
          obtain ⟨w8, hw8⟩ : ∃ W, W = w7.alloc (.cells #[.slice (some ⟨gh, oh, none⟩) L ch] 24) := ⟨_, rfl⟩
          have hb8 : Below w7.heap.size w7 w8 := by rw [hw8]; exact (Below.refl _ _).alloc (Nat.le_refl _) _
          have hb68 := hb7.trans (hb8.mono hb7.size)
          have HB8 := Lib.hid (HB6.out.trans (hb68.mono HB6.out.size))
          have HRG := Lib.hid (HRG6.out.up (Keep.below hb68))
          have HGG := Lib.hid (LsF.up (fun _ _ => oneNode.up (Keep.below hb68)) _ HGG6.out)
          have HVS := Lib.hid (HVS6.out.up (Keep.below hb68))
          have HRH := Lib.hid (hrh.up (Keep.below hb8))
          have HGH := Lib.hid (LsF.up (fun _ _ => oneNode.up (Keep.below hb8)) _ hgh)
          have HVT := Lib.hid (hvs.up (Keep.below hb8))
          have H128 := Lib.hid (H126.out.belowAll hb68)
          have H158 : Hid (Holds w8 w7.heap.size 24 [.slice (some ⟨gh, oh, none⟩) L ch]) := by rw [hw8]; exact Holds.new w7 24 #[.slice (some ⟨gh, oh, none⟩) L ch]
          have c12 := H128.out.cell 0
          have c15 := H158.out.cell 0
          simp only [List.getElem?_cons_zero] at c12 c15
          have hLs : Hid (L ≤ 20000) := by
            have h3 := (ex_ok HCK.out)
            obtain ⟨sx, gx, e3, m3, _⟩ := h3
            rw [HEX1.out] at e3
            injection e3 with e3
            injection e3 with e3 _
            subst e3
            have h4 := nodup_bound _ _ m3.nodup m3.lt
            have h5 := HM.out
            show _ ≤ _
            omega
          rw [hw8] at c12 c15
          have HG1 := Lib.hid hg1
          have HG2 := Lib.hid hg2
          have HL2 := Lib.hid hl2
          have HLL := Lib.hid hL
          clear hb7 hb8 hb68 hrh hgh hvs HB6 HRG6 HGG6 HVS6 H126 HV46 hg1 hg2 hl2 hL
          go_wp2_with (fail)
          rw [← hw8]
          clear hw8 c12 c15
          generalize w7.heap.size = b15 at *
          go_loopw [18] (fun y wr => ∃ j : Nat, y = .int .i64 (j : Int) ∧ j ≤ L ∧ Hid (Below w8.heap.size w8 wr)) (fun y _ => L - (intOf y).toNat)
          case atStart => exact ⟨0, rfl, Nat.zero_le _, Below.refl _ _⟩
          case round =>
            obtain ⟨j, hx, hj, HBW⟩ := hrel
            subst hx
            by_cases hjl : j < L
            · have hj2i : (j : Int) < (L : Int) := by omega
              have hj0i : (0 : Int) ≤ (j : Int) := by omega
              have hls := hLs.out
              have hwj : IntKind.i64.wrap (j : Int) = (j : Int) := by rw [IntKind.wrap_i64]; omega
              have hwj1 : IntKind.i64.wrap ((j : Int) + 1) = (j : Int) + 1 := by rw [IntKind.wrap_i64]; omega
              by_cases hj3 : j < 300
              · have hj3i : (j : Int) < 300 := by omega
                obtain ⟨m0, hm0, he0, xg, yg, hx0, hy0, hal, hpr⟩ := HLAW.out j (by rw [HLL.out]; exact hjl)
                rw [HLL.out] at hm0
                have HM0 := Lib.hid hm0
                have HE0 := Lib.hid he0
                have HX0 := Lib.hid hx0
                have HY0 := Lib.hid hy0
                have HAL := Lib.hid hal
                have HPR := Lib.hid hpr
                clear hm0 he0 hx0 hy0 hal hpr
                go_wp2_with (fail)
                obtain ⟨wj, rfl⟩ : ∃ W, W = wr := ⟨_, rfl⟩
                go_loopw [19, 20] (fun p q wr => ∃ (met : Bool) (m : Nat), p = .bool met ∧ q = .int .i64 (m : Int) ∧ m ≤ L ∧ Hid (m0 < m → met = true) ∧ Hid (Below w8.heap.size w8 wr)) (fun _ q _ => L - (intOf q).toNat)
                case atStart => exact ⟨false, 0, rfl, rfl, Nat.zero_le _, (fun h => absurd h (Nat.not_lt_zero _)), HBW.out⟩
                case round =>
                  obtain ⟨met, m, hp, hq, hml, HMT, HBI⟩ := hrel
                  subst hp
                  subst hq
                  by_cases hmL : m < L
                  · have hm2i : (m : Int) < (L : Int) := by omega
                    have hm0i : (0 : Int) ≤ (m : Int) := by omega
                    have hwm : IntKind.i64.wrap (m : Int) = (m : Int) := by rw [IntKind.wrap_i64]; omega
                    have hwm1 : IntKind.i64.wrap ((m : Int) + 1) = (m : Int) + 1 := by rw [IntKind.wrap_i64]; omega
                    have c12 := (H128.out.belowAll HBI.out).cell 0
                    have c15 := (H158.out.belowAll HBI.out).cell 0
                    simp only [List.getElem?_cons_zero] at c12 c15
                    have cS1 := str_at (HVS.out.up (Keep.below HBI.out)) hjl (List.getElem?_eq_getElem (by rw [HLL.out]; exact hjl))
                    have cS2 := str_at (HVT.out.up (Keep.below HBI.out)) hmL (List.getElem?_eq_getElem (by rw [HL2.out]; exact hmL))
                    obtain ⟨p1, p2, cN1, cN2⟩ := node_at (HRG.out.up (Keep.below HBI.out)) (LsF.up (fun _ _ => oneNode.up (Keep.below HBI.out)) _ HGG.out) HG1.out hjl HX0.out
                    obtain ⟨yh, hyh⟩ : ∃ y, g'[m]? = some y := ⟨_, List.getElem?_eq_getElem (by rw [HG2.out]; exact hmL)⟩
                    obtain ⟨p3, p4, cM1, cM2⟩ := node_at (HRH.out.up (Keep.below HBI.out)) (LsF.up (fun _ _ => oneNode.up (Keep.below HBI.out)) _ HGH.out) HG2.out hmL hyh
                    have HHIT : Hid (m = m0 → st'[m]'(by rw [HL2.out]; exact hmL) = st[j]'(by rw [HLL.out]; exact hjl) ∧ yh = yg) := fun e => by
                      subst e
                      have h3 := HE0.out
                      rw [List.getElem?_eq_getElem (by rw [HL2.out]; exact hmL)] at h3
                      injection h3 with h3
                      have h4 := HY0.out
                      rw [hyh] at h4
                      injection h4 with h4
                      exact ⟨h3, h4⟩
                    obtain ⟨S1, hS1⟩ : ∃ s, keyS (st[j]'(by rw [HLL.out]; exact hjl)) = s := ⟨_, rfl⟩
                    obtain ⟨T2, hT2⟩ : ∃ s, keyS (st'[m]'(by rw [HL2.out]; exact hmL)) = s := ⟨_, rfl⟩
                    obtain ⟨q1, hq1⟩ : ∃ s, xg.arcs.length = s := ⟨_, rfl⟩
                    obtain ⟨q2, hq2⟩ : ∃ s, yh.arcs.length = s := ⟨_, rfl⟩
                    obtain ⟨r1, hr1⟩ : ∃ s, xg.props = s := ⟨_, rfl⟩
                    obtain ⟨r2, hr2⟩ : ∃ s, yh.props = s := ⟨_, rfl⟩
                    have HNO : Hid (¬ (S1 = T2 ∧ q1 = q2 ∧ r1 = r2) → m ≠ m0) := fun hn e => by
                      obtain ⟨h3, h4⟩ := HHIT.out e
                      refine hn ⟨by rw [← hS1, ← hT2, h3], ?_, ?_⟩
                      · rw [← hq1, ← hq2, h4]; exact HAL.out
                      · rw [← hr1, ← hr2, h4]; exact HPR.out
                    rw [hS1] at cS1
                    rw [hT2] at cS2
                    rw [hq1] at cN1
                    rw [hq2] at cM1
                    rw [hr1] at cN2
                    rw [hr2] at cM2
                    clear hS1 hT2 hq1 hq2 hr1 hr2 hyh
                    cases met with
                    | true =>
                      clear HHIT
                      go_wp2_with (fail)
                      go_quiet (fail)
                      go_wp2
                      go_roundw
                      case rel => exact ⟨true, m + 1, rfl, by simp, by omega, fun _ => rfl, below_drewN HBI.out _⟩
                      case measure => (simp [intOf]) <;> omega
                    | false =>
                      by_cases hSS : S1 = T2
                      · subst hSS
                        by_cases hqq : q1 = q2
                        · subst hqq
                          by_cases hrr : r1 = r2
                          · subst hrr
                            clear HHIT
                            go_wp2_with (fail)
                            go_quiet (fail)
                            go_wp2
                            go_roundw
                            case rel => exact ⟨true, m + 1, rfl, by simp, by omega, fun _ => rfl, below_drewN HBI.out _⟩
                            case measure => (simp [intOf]) <;> omega
                          · have dr : ((r1 : Int) == (r2 : Int)) = false := by rw [Bool.eq_false_iff]; intro h3; have h4 := eq_of_beq h3; exact hrr (by omega)
                            have HMM : Hid (m ≠ m0) := HNO.out fun h => hrr h.2.2
                            have HMX : Hid (m0 < m + 1 → false = true) := fun h => HMT.out (by have := HMM.out; omega)
                            clear hrr HNO HMM
                            clear HHIT
                            go_wp2_with (fail)
                            go_quiet (fail)
                            go_wp2
                            go_roundw
                            case rel => exact ⟨false, m + 1, rfl, by simp, by omega, HMX.out, below_drewN HBI.out _⟩
                            case measure => (simp [intOf]) <;> omega
                        · have dq : ((q1 : Int) == (q2 : Int)) = false := by rw [Bool.eq_false_iff]; intro h3; have h4 := eq_of_beq h3; exact hqq (by omega)
                          have HMM : Hid (m ≠ m0) := HNO.out fun h => hqq h.2.1
                          have HMX : Hid (m0 < m + 1 → false = true) := fun h => HMT.out (by have := HMM.out; omega)
                          clear hqq HNO HMM
                          clear HHIT
                          go_wp2_with (fail)
                          go_quiet (fail)
                          go_wp2
                          go_roundw
                          case rel => exact ⟨false, m + 1, rfl, by simp, by omega, HMX.out, below_drewN HBI.out _⟩
                          case measure => (simp [intOf]) <;> omega
                      · have dS : (S1.toList == T2.toList) = false := by rw [Bool.eq_false_iff]; intro h3; exact hSS (bytes_eq h3)
                        have HMM : Hid (m ≠ m0) := HNO.out fun h => hSS h.1
                        have HMX : Hid (m0 < m + 1 → false = true) := fun h => HMT.out (by have := HMM.out; omega)
                        clear hSS HNO HMM
                        clear HHIT
                        go_wp2_with (fail)
                        go_quiet (fail)
                        go_wp2
                        go_roundw
                        case rel => exact ⟨false, m + 1, rfl, by simp, by omega, HMX.out, below_drewN HBI.out _⟩
                        case measure => (simp [intOf]) <;> omega
                  · obtain rfl : m = L := by omega
                    obtain rfl : met = true := HMT.out HM0.out
                    go_wp2
                    go_roundw
                    case rel => exact ⟨j + 1, by simp, by omega, HBI.out⟩
                    case measure => (simp [intOf]) <;> omega
              · have hj3i : ¬ (j : Int) < 300 := by omega
                go_wp2_with (fail)
                refine (knownFn _).mono ?_
                rintro e w11 ⟨rfl, hb11⟩
                have HBF : Hid (Below w.heap.size w w11) := (HB2.out.trans (HB8.out.mono HB2.out.size)).trans ((HBW.out.trans (hb11.mono HBW.out.size)).mono (Nat.le_trans HB2.out.size HB8.out.size))
                clear hb11
                go_wp2
                go_ret
                exact ⟨rfl, HBF.out⟩
            · have hj2i : ¬ (j : Int) < (L : Int) := by omega
              go_wp2_with (fail)
              refine (knownFn _).mono ?_
              rintro e w11 ⟨rfl, hb11⟩
              have HBF : Hid (Below w.heap.size w w11) := (HB2.out.trans (HB8.out.mono HB2.out.size)).trans ((HBW.out.trans (hb11.mono HBW.out.size)).mono (Nat.le_trans HB2.out.size HB8.out.size))
              clear hb11
              go_wp2
              go_ret
              exact ⟨rfl, HBF.out⟩
    · have d1 : decide ((20000 : Int) ≤ (M : Int)) = true := decide_eq_true (by omega)
      go_wp2_with (fail)
      refine (knownFn _).mono ?_
      rintro e w3 ⟨rfl, hb3⟩
      have HB3 : Hid (Below w.heap.size w w3) := HB2.out.trans (hb3.mono HB2.out.size)
      clear hb3
      go_wp2
      go_ret
      exact ⟨rfl, HB3.out⟩
  · have hcf : chk N = false := by simpa using hc
    rw [hcf] at h2
    simp only [Bool.false_eq_true, if_false] at h2
    subst h2
    clear hc hb2
    go_wp2_with (fail)
    refine (knownFn _).mono ?_
    rintro e w3 ⟨rfl, hb3⟩
    have HB3 : Hid (Below w.heap.size w w3) := HB2.out.trans (hb3.mono HB2.out.size)
    clear hb3
    go_wp2
    go_ret
    exact ⟨rfl, HB3.out⟩
end Go.Proofs.Ytcedenoicmpjmaa
