/- The walk of the search's enter, where all moves are followed. -/
import Derived.Test.YtpednhcfkjjcpaaUnd
import Derived.StillTailTactics
namespace Go.Proofs.Ytpednhcfkjjcpaa.G
open Go.RowKit Go.Maps
set_option linter.unusedVariables false
set_option linter.unusedSimpArgs false

/-- A region that only reads up to its tail, the world's draw written as such. -/
theorem region_tail {P : Program} {id : Nat} {Q : Exit → Act → World → Prop} {a : Act} {w : World} {l : List Oper} (n : Nat) (hm : P.follows .mixedOrders = true) (hB : Region.lexTailB .any l.toArray n = true)
    (h : wpStill P l.toArray w.drew (fun a' => wpList P l.toArray Q (l.drop n) a' w.drew) (l.take n) a) : (Code.region id l.toArray true).wp P Q a w := wp_region_still_tail n hm hB h
theorem field_se (p : Nat) (u1 u2 u3 : Bool) (w : World) : (Instr.field 92 (.agg #[.int .u64 (p : Int), .bool u1, .bool u2, .bool u3]) 1).run Try.prog w = .ok (.bool u1) w := by kernel_rfl
theorem sz_Frames : (Try.prog.info? 62).map (·.size) = some 1 := by kernel_rfl
theorem info_frame : (Try.prog.info? 73).map (fun i => (i.zero.map fun z => z.cells.size, i.size, i.bytes)) = some (some 3, 3, 40) := by kernel_rfl
section
variable {I : Ifc} {vm : Value} {o : POpt} {b0 X Sb mb : Nat} {F P Q : Nat → Prop} {L : List Nat} {vw vp : Value} {w0 w w' : World} {x : Sr}
theorem Holds.drewS {w : World} {g : Nat} {t : TypeId} {cs : List Value} (h : Holds w g t cs) : Holds w.drew g t cs := h
theorem SrchV.drew (h : SrchV I vm o b0 X Sb mb F P Q L vw vp w0 x w) : SrchV I vm o b0 X Sb mb F P Q L vw vp w0 x w.drew := h.fresh ⟨rfl, rfl, rfl, Nat.le_refl _, fun _ _ => rfl⟩
def EnterPost (S : Sys) (I : Ifc) (vm : Value) (o : POpt) (b0 X Sb mb : Nat) (F P Q : Nat → Prop) (L : List Nat) (vp : Value) (w0 : World) (n : Nat) (s : ByteArray) (x : Sr) (w : World) (e : Ending) (w' : World) : Prop :=
  e = .returned (.bool (o.ends && ((S.next s).isEmpty && !(S.look s).fin))) ∧ ∃ P' vw', (∀ k, P k → P' k) ∧ Keep (fun k => P k ∨ Q k) w w' ∧ w.heap.size ≤ w'.heap.size ∧ SrchV I vm o b0 X Sb mb F P' Q (n :: L) vw' vp w0 { x with way := ⟨n, s, S.next s, 0⟩ :: x.way, moves := x.moves + (S.next s).length, deep := max x.deep x.path.length } w'
set_option maxHeartbeats 8000000 in
set_option maxRecDepth 100000 in
theorem enterFn {S : Sys} {n : Nat} {s : ByteArray} (h : SrchV I vm o b0 X Sb mb F P Q L vw vp w0 x w) (hb0 : w0.heap.size ≤ b0) (hS : SysOk I S w0) (hs : s.size ≤ 1048576) (hn : n < 1000001) (ha : o.ample = false) (hm : x.moves ≤ 4000000000000) (hd : x.deep ≤ 2000000) (hp : x.path.length ≤ 2000000) (hw : x.way.length ≤ 1000000) :
    Calls Try.prog 18 #[.pointer (some ⟨X, 0, none⟩), .int .i64 (n : Int), .string s] w (EnterPost S I vm o b0 X Sb mb F P Q L vp w0 n s x w) := by
  obtain ⟨fp0, pp1, -⟩ := h.path
  obtain ⟨ap, cp, hvp, hcp, _⟩ := owns_form pp1
  obtain ⟨PL, hPL⟩ : ∃ n, x.path.length = n := ⟨_, rfl⟩
  have HPL := Lib.hid hPL
  rw [hPL] at hp hcp hvp
  have HVP := Lib.hid hvp
  clear pp1 fp0 hPL hvp
  have c10 := h.box.cell 10
  simp only [srC, List.getElem?_cons_zero, List.getElem?_cons_succ] at c10
  have H := Lib.hid h
  have HS := Lib.hid hS
  have HSS := Lib.hid hs
  have hnl := hS.small.len s hs
  obtain ⟨l, hl⟩ : ∃ l, S.next s = l := ⟨_, rfl⟩
  rw [hl] at hnl
  have HL := Lib.hid hl
  obtain ⟨i0, z0, hi0, hz0, hz1, hz2, hz3⟩ := info_of info_frame
  clear h hS hs hl
  go_enter Try.func18, Try.ntmps18
  go_wp2_with (at_mapUpdate; refine Mp.wpList_bput _ rfl (.tmp 11) (.tmp 12) (.const (.bool true)) rfl rfl H.out.on n rfl rfl hn (by omega) ?_)
  intro w1 hm1 hg1
  rw [onP_put] at hm1
  have h1 := H.out.mapped hm1 hg1
  have HK1 : Hid (Keep (fun k => P k ∨ Q k) w w1) := fun k hk hs => hg1.block k hs fun e => (H.out.sep k hk).2.2.2.1 (Option.some.inj e)
  have HZ1 : Hid (w.heap.size ≤ w1.heap.size) := hg1.size
  have H1 := Lib.hid h1
  clear hm1 hg1 h1 c10
  have HS1 := Lib.hid (HS.out.at (H1.out.below.mono hb0))
  have c0 : (srC I vm o Sb mb vw vp x.limit 0 0 (.slice none 0 0) 0 x.moves x.deep)[0]? = some (.iface I.tid I.dyn) := rfl
  have c7 : (srC I vm o Sb mb vw vp x.limit 0 0 (.slice none 0 0) 0 x.moves x.deep)[7]? = some (.bool false) := by rw [← ha]; rfl
  have HMV := Lib.hid (mvsFn HS1.out HSS.out H1.out.box c0 c7)
  clear c0 c7 H
  go_wp2_with (fail)
  refine HMV.out.mono ?_
  rintro e w2 ⟨hb2, vl, rfl, hvl⟩
  rw [HL.out] at hvl
  obtain ⟨al, cl, rfl, hcl⟩ := hvl.lenS
  obtain ⟨N, hN⟩ : ∃ N, l.length = N := ⟨_, rfl⟩
  have HN := Lib.hid hN
  have h2 := H1.out.fresh hb2
  have HK2 : Hid (Keep (fun k => P k ∨ Q k) w w2) := HK1.out.trans (Keep.below hb2) HZ1.out
  have HZ2 : Hid (w.heap.size ≤ w2.heap.size) := Nat.le_trans HZ1.out hb2.size
  have HVL : Hid (MvsV (fun q => w1.heap.size ≤ q ∧ q < w2.heap.size) w2 (.slice al l.length cl) l) := hvl.mono fun k hk hs => ⟨hk, hs⟩
  have HW12 := Lib.hid hb2.size
  -- what has been told lies in more blocks
  have hsep2 : ∀ k, (P k ∨ (w1.heap.size ≤ k ∧ k < w2.heap.size)) ∨ Q k → k < w2.heap.size ∧ ¬ F k ∧ k ≠ X ∧ k ≠ mb ∧ vw.ownBlock ≠ some k ∧ vp.ownBlock ≠ some k := fun k hk => by
    rcases hk with (hk | hk) | hk
    · exact h2.sep k (.inl hk)
    · obtain ⟨fw, q1, _⟩ := H1.out.way
      obtain ⟨fp, q2, _⟩ := H1.out.path
      refine ⟨hk.2, fun hF => ?_, fun e => ?_, fun e => ?_, fun e => ?_, fun e => ?_⟩
      · have := (H1.out.met.lt k hF).2; omega
      · have := H1.out.box.lt; omega
      · have := H1.out.on.lt; omega
      · have := owns_lt q1 k e; omega
      · have := owns_lt q2 k e; omega
    · exact h2.sep k (.inr hk)
  have H2 := Lib.hid (h2.wider (P' := fun k => P k ∨ (w1.heap.size ≤ k ∧ k < w2.heap.size)) (fun k hk => .inl hk) (fun k hq hk => hk.elim (h2.lop k hq) fun hk => by have := (H1.out.sep k (.inr hq)).1; omega) hsep2)
  rw [hN] at hnl hcl ⊢
  have HBX := Lib.hid H2.out.box
  have c19 := H2.out.box.cell 19
  simp only [srC, List.getElem?_cons_zero, List.getElem?_cons_succ] at c19
  obtain ⟨M, hM⟩ : ∃ M, x.moves = M := ⟨_, rfl⟩
  obtain ⟨K, hK⟩ : ∃ K, M + N = K := ⟨_, rfl⟩
  have HKM : Hid (x.moves + N = K) := by show _ = _; rw [hM, hK]
  rw [hM] at c19 hm
  have hwm : IntKind.i64.wrap ((M : Int) + (N : Int)) = (K : Int) := by rw [IntKind.wrap_i64, ← hK]; omega
  clear hN hb2 hvl h2 hsep2 HMV H1 HK1 HS1 HZ1 hM hK
  go_wp2_with (refine wpList_store1 rfl 3 _ _ rfl X 19 (.int .i64 (K : Int)) rfl rfl HBX.out (Nat.le_of_ble_eq_true rfl) sz_Int rfl rfl ?_)
  refine Named.mk (fun w3 hW3 => ?_)
  have hf3 : Fr (fun q => q = X) w2 w3 := by rw [hW3]; exact Fr.setRX _ _ 19 _
  have h3 : SrchV I vm o b0 X Sb mb F (fun k => P k ∨ (w1.heap.size ≤ k ∧ k < w2.heap.size)) Q (n :: L) vw vp w0 { x with moves := K } w3 := H2.out.rebox hf3 (HBX.out.stored hW3 (Nat.le_of_ble_eq_true rfl)) rfl rfl rfl
  have HK3 : Hid (Keep (fun k => P k ∨ Q k) w w3) := HK2.out.trans (fun k hk hs => hf3.block k hs fun e => (H2.out.sep k (hk.imp .inl id)).2.2.1 e) HZ2.out
  have HVL3 : Hid (MvsV (fun q => w1.heap.size ≤ q ∧ q < w2.heap.size) w3 (.slice al l.length cl) l) := HVL.out.up fun k hk hs => hf3.block k hs fun e => (H2.out.sep k (.inl (.inr hk))).2.2.1 e
  have HZ3 : Hid (w.heap.size ≤ w3.heap.size) := Nat.le_trans HZ2.out hf3.size
  obtain ⟨fw, q1, q2⟩ := h3.way
  obtain ⟨aw, cw, rfl, hcw, _⟩ := owns_form q1
  have HRW := Lib.hid q1
  have HFW := Lib.hid q2
  have H3 := Lib.hid h3
  have c11 := h3.box.cell 11
  simp only [srC, List.getElem?_cons_zero, List.getElem?_cons_succ] at c11
  obtain ⟨WL, hWL⟩ : ∃ n, x.way.length = n := ⟨_, rfl⟩
  have HWL : Hid (({ x with moves := K } : Sr).way.length = WL) := hWL
  have hWL2 : ({ x with moves := K } : Sr).way.length = WL := hWL
  rw [hWL2] at c11 hcw HRW H3
  rw [hWL] at hw
  clear hW3 hf3 h3 q1 q2 HBX H2 HK2 HVL HZ2 c19 hwm hWL hWL2
  go_wp2_with (refine halt_call2 { callee := .builtin .append, args := #[.tmp 31, .tmp 35], argTypes := #[62, 62] } rfl ?_)
  refine Stop.mk ?_
  refine wpList_append_own_at _ rfl (.tmp 31) (.tmp 35) _ rfl b0 73 i0 z0 3 40 Try.underlying62 hi0 hz0 hz1 hz2 hz3 (by omega) (.slice aw WL cw) WL fw rfl (owns_below HRW.out ((Below.refl _ _).alloc (Nat.le_refl _) _)) ⟨w3.heap.size, 0, none⟩ 1 1 [.int .i64 (n : Int), .slice al N cl, .int .i64 0] rfl rfl ?c1 ?c2 ?c3 ?c4 ?c5 ?_
  case c1 => exact fun jj u hu => by rw [Addr.add_lit, Nat.zero_add]; exact ((Holds.new w3 73 ([.int .i64 (n : Int), .slice al N cl, .int .i64 0] : List Value).toArray).cell jj).trans hu
  case c2 => simp [Value.oneCell']
  case c3 => unfold maxLen; omega
  case c4 => omega
  case c5 => have := H3.out.size; simp; omega
  intro v' W4 hown hgrow _ hblk
  obtain ⟨av4, cv4, rfl, _, _⟩ := owns_form hown
  have hba : Below w3.heap.size w3 (w3.alloc (.cells ([.int .i64 (n : Int), .slice al N cl, .int .i64 0] : List Value).toArray 73)) := (Below.refl _ _).alloc (Nat.le_refl _) _
  have h3a := H3.out.fresh hba
  have HX4 : Hid (Holds W4 X 64 (srC I vm o Sb mb (.slice aw WL cw) vp x.limit 0 0 (.slice none 0 0) 0 K x.deep)) := h3a.box.of_eq (hgrow.block _ h3a.box.lt fun he => owns_ne_holds (owns_below HRW.out hba) h3a.box (by decide) he.symm)
  have HOX := Lib.hid hown
  have HGW := Lib.hid hgrow
  have HBK := Lib.hid hblk
  have H3A := Lib.hid h3a
  have HBA := Lib.hid hba
  clear hown hgrow hblk hba h3a c11
  go_wp2_with (refine wpList_store1 rfl 62 _ _ rfl X 11 (.slice av4 (WL + 1) cv4) rfl rfl HX4.out (Nat.le_of_ble_eq_true rfl) sz_Frames rfl rfl ?_)
  refine Named.mk (fun w5 hW5 => ?_)
  have hfrm : FrmF (fun k => P k ∨ (w1.heap.size ≤ k ∧ k < w2.heap.size)) (w3.alloc (.cells ([.int .i64 (n : Int), .slice al N cl, .int .i64 0] : List Value).toArray 73)) ⟨n, s, l, 0⟩ [.int .i64 (n : Int), .slice al N cl, .int .i64 0] := ⟨_, by rw [show (⟨n, s, l, 0⟩ : Frm).k = 0 from rfl]; rfl, by
    have := (HVL3.out.up (Keep.below HBA.out)).mono (Q := fun k => P k ∨ (w1.heap.size ≤ k ∧ k < w2.heap.size)) fun k hk _ => .inr hk
    rw [HN.out] at this
    exact this⟩
  have h5 := H3A.out.pushWay (f := ⟨n, s, l, 0⟩) (by rw [HWL.out]; exact owns_below HRW.out HBA.out) (LsF.up (fun _ _ => oneFrm.up (Keep.below HBA.out)) _ HFW.out) hfrm (by rw [HWL.out]; exact HOX.out) HGW.out HBK.out hW5
  have HK5 : Hid (Keep (fun k => P k ∨ Q k) w w5) := HK3.out.trans ((Keep.below HBA.out).trans ((H3A.out.keepPush (.inl rfl) HGW.out (by rw [hW5]; exact Fr.setRX _ _ 11 _)).imp fun k hk => hk.imp .inl id) HBA.out.size) HZ3.out
  have HZ5 : Hid (w.heap.size ≤ w5.heap.size) := by
    have h1 := HBA.out.size
    have h2 := HGW.out.size
    have h3 : w5.heap.size = W4.heap.size := by rw [hW5, setR_size]
    have h4 := HZ3.out
    show _ ≤ _
    omega
  have H5 := Lib.hid h5
  clear hW5 hfrm h5 HX4 HOX HGW HBK H3A HBA H3 HRW HFW HK3 HZ3 HVL3
  obtain ⟨D, hD⟩ : ∃ d, x.deep = d := ⟨_, rfl⟩
  have HDD := Lib.hid hD
  have HB5 := Lib.hid H5.out.box
  have c20 := H5.out.box.cell 20
  have c12 := H5.out.box.cell 12
  simp only [srC, List.getElem?_cons_zero, List.getElem?_cons_succ] at c20 c12
  rw [hD] at c20 hd
  rw [HVP.out] at c12
  obtain ⟨E, hE⟩ : ∃ e, max D PL = e := ⟨_, rfl⟩
  have hmx : (if D < PL then (PL : Int) else (D : Int)) = (E : Int) := by rw [← hE]; split <;> omega
  have HE : Hid (max x.deep x.path.length = E) := by show _ = _; rw [HDD.out, HPL.out, hE]
  clear hD hE
  go_wp2_with (fail)
  refine region_tail 15 (by kernel_rfl) (by kernel_rfl) ?_
  simp only [List.take_succ_cons, List.take_zero, List.drop_succ_cons, List.drop_zero]
  repeat still_step
  refine wpStill_nil ?_
  refine wpList_store1 rfl 3 _ _ rfl X 20 (.int .i64 (E : Int)) rfl rfl (Holds.drewS HB5.out) (Nat.le_of_ble_eq_true rfl) sz_Int rfl rfl ?_
  refine Named.mk (fun w6 hW6 => ?_)
  have hf6 : Fr (fun q => q = X) w5 w6 := ((Fr.refl _ w5).drew).trans (by rw [hW6]; exact Fr.setRX _ _ 20 w5.drew) fun _ _ h => h
  have h6 : SrchV I vm o b0 X Sb mb F (fun k => P k ∨ (w1.heap.size ≤ k ∧ k < w2.heap.size)) Q (n :: L) (.slice av4 (WL + 1) cv4) vp w0 { x with way := ⟨n, s, l, 0⟩ :: x.way, moves := K, deep := E } w6 := H5.out.rebox hf6 ((Holds.drewS HB5.out).stored hW6 (Nat.le_of_ble_eq_true rfl)) rfl rfl rfl
  have HK6 : Hid (Keep (fun k => P k ∨ Q k) w w6) := HK5.out.trans (fun k hk hs => hf6.block k hs fun e => (H5.out.sep k (hk.imp .inl id)).2.2.1 e) HZ5.out
  have HZ6 : Hid (w.heap.size ≤ w6.heap.size) := Nat.le_trans HZ5.out hf6.size
  have H6 := Lib.hid h6
  have d5 := h6.box.cell 5
  have d0 := h6.box.cell 0
  simp only [srC, List.getElem?_cons_zero, List.getElem?_cons_succ] at d5 d0
  have HEND : Hid (∀ (b : Bool) (w' : World), b = (o.ends && (l.isEmpty && !(S.look s).fin)) → Below w6.heap.size w6 w' → EnterPost S I vm o b0 X Sb mb F P Q L vp w0 n s x w (.returned (.bool b)) w') := fun b w' hb hb' => by
    have h7 := H6.out.fresh hb'
    unfold EnterPost
    rw [HL.out]
    refine ⟨by rw [hb], fun k => P k ∨ (w1.heap.size ≤ k ∧ k < w2.heap.size), .slice av4 (WL + 1) cv4, fun k hk => .inl hk, HK6.out.trans (Keep.below hb') HZ6.out, Nat.le_trans HZ6.out hb'.size, ?_⟩
    rw [HN.out, HKM.out, HE.out]
    exact h7
  clear hW6 hf6 h6 HB5 H5 HK5 HZ5 c20 c12 hmx
  cases hen : o.ends with
  | false =>
    rw [hen] at d5
    have HEN := Lib.hid hen
    clear hen
    go_wp2
    go_ret
    exact HEND.out _ _ (by rw [HEN.out]; rfl) (Below.refl _ _)
  | true =>
    rw [hen] at d5
    have HEN := Lib.hid hen
    clear hen
    by_cases hN0 : N = 0
    · have dN : ((N : Int) == 0) = true := by rw [hN0]; rfl
      have HIE : Hid (l.isEmpty = true) := by
        show _ = _
        rw [List.isEmpty_iff]
        exact List.length_eq_zero_iff.1 (HN.out.trans hN0)
      have mL := HS.out.mL
      have eL := HS.out.eL
      obtain ⟨y, hy⟩ : ∃ y, S.look s = y := ⟨_, rfl⟩
      have HLK := HS.out.look w6 s (H6.out.below.mono hb0) HSS.out
      rw [hy] at HLK
      have HLK := Lib.hid HLK
      have HY := Lib.hid hy
      clear hN0 hy
      obtain ⟨ya, yp, yf, yg, yc⟩ := y
      have hfs := field_se yp yf yg yc
      go_wp2_with (fail)
      refine HLK.out.mono ?_
      rintro e w7 ⟨hb7, rfl⟩
      have HB7 := Lib.hid hb7
      unfold sight
      dsimp only
      clear hb7 mL eL d5 d0
      go_wp2
      go_ret
      exact HEND.out _ _ (by rw [HEN.out, HIE.out, HY.out]; simp) HB7.out
    · have dN : ((N : Int) == 0) = false := by rw [Bool.eq_false_iff]; intro h; have h4 := eq_of_beq h; omega
      have HIE : Hid (l.isEmpty = false) := by
        show _ = _
        rw [Bool.eq_false_iff]
        intro h
        rw [List.isEmpty_iff] at h
        exact hN0 (by rw [← HN.out, h]; rfl)
      clear hN0
      go_wp2
      go_ret
      exact HEND.out _ _ (by rw [HEN.out, HIE.out]; rfl) (Below.refl _ _)
end
end Go.Proofs.Ytpednhcfkjjcpaa.G
