/- The walk of net.together. -/
import Derived.Test.YtcopoaaofjeklaaAjn
import Derived.Test.YtcopoaaofjeklaaTtu
import Derived.Deep.RegionHeld3
namespace Go.Proofs.Ytcopoaaofjeklaa.G
open Go.RowKit
set_option linter.unusedVariables false
set_option linter.unusedSimpArgs false

def BigF (f : PFoot) (n : Nat) : Prop := f.reads.length ≤ n ∧ f.writes.length ≤ n ∧ f.turns < 18446744073709551616
def FootP (f : PFoot) (w : World) (e : Ending) (w' : World) : Prop := Below w.heap.size w w' ∧ ∃ v, e = .returned v ∧ FtV (From w.heap.size) w' v f
theorem row_fr {lo b : Nat} {W W' : World} {v : Value} {n : Nat} {f : List Value} (h : RowL (From lo) W 1 v n f) (hf : Fr (fun q => q = b) W W') (hb : b < lo) : RowL (From lo) W' 1 v n f :=
  h.up fun q hq hs => hf.block q hs fun e => by have h1 : lo ≤ q := hq; omega
theorem row_lt {lo b : Nat} {W W' : World} {v : Value} {n : Nat} {f : List Value} (h : RowL (fun q => q < lo) W 1 v n f) (hf : Fr (fun q => q = b) W W') (hb : lo ≤ b) : RowL (fun q => q < lo) W' 1 v n f :=
  h.up fun q hq hs => hf.block q hs fun e => by have h1 : q < lo := hq; omega
theorem BigF.tog {x y : PFoot} {n m : Nat} (hx : BigF x n) (hy : BigF y m) : BigF (togP x y) (n + m) :=
  ⟨Nat.le_trans (joinP_len _ _) (Nat.add_le_add hx.1 hy.1), Nat.le_trans (joinP_len _ _) (Nat.add_le_add hx.2.1 hy.2.1), Nat.or_lt_two_pow (n := 64) hx.2.2 hy.2.2⟩
/-- Two boxes that are read, one that is written. -/
structure TgS (w1 : World) (b4 b2 b3 : Nat) (c2 c3 : List Value) (W : World) : Prop where
  fr : Fr (fun q => q = b4) w1 W
  h2 : Holds W b2 25 c2
  h3 : Holds W b3 25 c3
  h4 : ∃ c4 : List Value, c4.length = 3 ∧ Holds W b4 25 c4
  ne : b2 ≠ b4 ∧ b3 ≠ b4
theorem TgS.fresh {w1 W W' : World} {b4 b2 b3 : Nat} {c2 c3 : List Value} (h : TgS w1 b4 b2 b3 c2 c3 W) (hb : Below W.heap.size W W') : TgS w1 b4 b2 b3 c2 c3 W' := by
  obtain ⟨c4, hl, h4⟩ := h.h4
  exact ⟨h.fr.trans (Fr.of_below hb (fun q => q = b4)) fun _ _ h => h, h.h2.belowAll hb, h.h3.belowAll hb, ⟨c4, hl, h4.belowAll hb⟩, h.ne⟩
theorem TgS.put {w1 W W' : World} {b4 b2 b3 : Nat} {c2 c3 xs : List Value} (h : TgS w1 b4 b2 b3 c2 c3 W) (hW : W' = setR W b4 0 xs) (hx : xs.length = 3) : TgS w1 b4 b2 b3 c2 c3 W' ∧ Holds W' b4 25 xs := by
  obtain ⟨c4, hl, h4⟩ := h.h4
  have hf : Fr (fun q => q = b4) W W' := by rw [hW]; exact Fr.setRX _ _ 0 _
  have h5 := h4.stored hW (by omega)
  rw [List.take_zero, List.nil_append, List.drop_of_length_le (by omega), List.append_nil] at h5
  exact ⟨⟨h.fr.trans hf fun _ _ h => h, hf.holds h.h2 h.ne.1, hf.holds h.h3 h.ne.2, ⟨xs, hx, h5⟩, h.ne⟩, h5⟩
theorem TgS.cells {w1 W : World} {b4 b2 b3 : Nat} {x0 x1 x2 y0 y1 y2 : Value} (h : TgS w1 b4 b2 b3 [x0, x1, x2] [y0, y1, y2] W) : TgS w1 b4 b2 b3 [x0, x1, x2] [y0, y1, y2] W ∧ W.cell? ⟨b2, 0, none⟩ = some x0 ∧ W.cell? ⟨b2, 1, none⟩ = some x1 ∧ W.cell? ⟨b2, 2, none⟩ = some x2 ∧ W.cell? ⟨b3, 0, none⟩ = some y0 ∧ W.cell? ⟨b3, 1, none⟩ = some y1 ∧ W.cell? ⟨b3, 2, none⟩ = some y2 :=
  ⟨h, h.h2.cell 0, h.h2.cell 1, h.h2.cell 2, h.h3.cell 0, h.h3.cell 1, h.h3.cell 2⟩
theorem TgS.box {w1 W : World} {b4 b2 b3 : Nat} {c2 c3 : List Value} (h : TgS w1 b4 b2 b3 c2 c3 W) : W.cell? ⟨b4, 0, none⟩ = some ((W.cell? ⟨b4, 0, none⟩).getD undef) ∧ W.cell? ⟨b4, 1, none⟩ = some ((W.cell? ⟨b4, 1, none⟩).getD undef) ∧ W.cell? ⟨b4, 2, none⟩ = some ((W.cell? ⟨b4, 2, none⟩).getD undef) ∧ W.frozen? ⟨b4, 0, none⟩ = false ∧ W.frozen? ⟨b4, 1, none⟩ = false ∧ W.frozen? ⟨b4, 2, none⟩ = false := by
  obtain ⟨c4, hl, h4⟩ := h.h4
  obtain ⟨a, b, c, rfl⟩ : ∃ a b c, c4 = [a, b, c] := by match c4, hl with | [a, b, c], _ => exact ⟨a, b, c, rfl⟩
  have e0 := h4.cell 0
  have e1 := h4.cell 1
  have e2 := h4.cell 2
  simp only [List.getElem?_cons_zero, List.getElem?_cons_succ] at e0 e1 e2
  exact ⟨by rw [e0]; rfl, by rw [e1]; rfl, by rw [e2]; rfl, h4.free 0, h4.free 1, h4.free 2⟩
theorem op_storeB {P : Program} {op : Oper} {a : Act} {W : World} {K : Act → World → Prop} {Q : Exit → Act → World → Prop} {t : TypeId} {cs : List Value} (ty : TypeId) (x y : Operand) (ho : op.op = .store ty x y) (b i : Nat) (xs : List Value) (hx : a.eval x = .pointer (some ⟨b, i, none⟩)) (hy : a.eval y = .agg xs.toArray)
    (h : Holds W b t cs) (hl : i + xs.length ≤ cs.length) (hi : (P.info? ty).map (·.size) = some xs.length) (h1 : xs.all (·.oneCell') = true) (hk : ∀ w', w' = setR W b i xs → K (a.put op.dst undef) w') : op.wp P a W K Q := by
  unfold Oper.wp execOp
  simp only [ho, hx, hy, Sem.run_bind, Sem.run_pure, Result.andThen_ok, storeN h hl hi h1]
  exact hk _ rfl
set_option maxHeartbeats 1000000 in
set_option maxRecDepth 100000 in
theorem togFn {P P' : Nat → Prop} {w : World} {v v' : Value} {x y : PFoot} (h : FtV P w v x) (hx : BigF x 400000) (h' : FtV P' w v' y) (hy : BigF y 400000) : Calls Try.prog 56 #[v, v'] w (FootP (togP x y) w) := by
  obtain ⟨vr, vw, rfl, hr, hw⟩ := h.mono (Q := fun q => q < w.heap.size) fun q _ hq => hq
  obtain ⟨vr', vw', rfl, hr', hw'⟩ := h'.mono (Q := fun q => q < w.heap.size) fun q _ hq => hq
  have HTO : Hid (bits BinOp.or IntKind.u64 (x.turns : Int) (y.turns : Int) = (((togP x y).turns : Nat) : Int)) := bits_or_u64_nat _ _ hx.2.2 hy.2.2
  obtain ⟨tx, htx⟩ : ∃ t : Int, (x.turns : Int) = t := ⟨_, rfl⟩
  obtain ⟨ty, hty⟩ : ∃ t : Int, (y.turns : Int) = t := ⟨_, rfl⟩
  rw [htx, hty] at HTO
  rw [htx, hty]
  obtain ⟨w1, hw1⟩ : ∃ W, W = ((w.alloc (.cells #[vr, vw, .int .u64 tx] 25)).alloc (.cells #[vr', vw', .int .u64 ty] 25)).alloc (.cells #[.slice none 0 0, .slice none 0 0, .int .u64 0] 25) := ⟨_, rfl⟩
  have hb1 : Below w.heap.size w w1 := by rw [hw1]; exact (((Below.refl _ _).alloc (Nat.le_refl _) _).alloc (by simp) _).alloc (by simp; omega) _
  have h2 : Holds w1 w.heap.size 25 [vr, vw, .int .u64 tx] := by rw [hw1]; exact ((Holds.new w 25 #[vr, vw, .int .u64 tx]).alloc _).alloc _
  have h3 : Holds w1 (w.heap.size + 1) 25 [vr', vw', .int .u64 ty] := by
    have h := (Holds.new (w.alloc (.cells #[vr, vw, .int .u64 tx] 25)) 25 #[vr', vw', .int .u64 ty]).alloc (.cells #[.slice none 0 0, .slice none 0 0, .int .u64 0] 25)
    simp only [World.size_alloc] at h
    rw [hw1]; exact h
  have h4 : Holds w1 (w.heap.size + 1 + 1) 25 [.slice none 0 0, .slice none 0 0, .int .u64 0] := by
    have h := (Holds.new ((w.alloc (.cells #[vr, vw, .int .u64 tx] 25)).alloc (.cells #[vr', vw', .int .u64 ty] 25)) 25 #[.slice none 0 0, .slice none 0 0, .int .u64 0])
    simp only [World.size_alloc] at h
    rw [hw1]; exact h
  have HR := Lib.hid (hr.up (Keep.below hb1))
  have HW := Lib.hid (hw.up (Keep.below hb1))
  have HR' := Lib.hid (hr'.up (Keep.below hb1))
  have HW' := Lib.hid (hw'.up (Keep.below hb1))
  have HB1 := Lib.hid hb1
  have H2 := Lib.hid h2
  have H3 := Lib.hid h3
  have H4 := Lib.hid h4
  have c1 := hr.cell1
  have c2 := hw.cell1
  have c3 := hr'.cell1
  have c4 := hw'.cell1
  have HX := Lib.hid hx
  have HY := Lib.hid hy
  clear hr hw hr' hw' hb1 h2 h3 h4 h h' hx hy htx hty
  go_enter Try.func56, Try.ntmps56
  go_upto_region 2 with (fail)
  rw [← hw1]
  clear hw1
  obtain ⟨b2, hb2⟩ : ∃ b, w.heap.size = b := ⟨_, rfl⟩
  have HBB : Hid (w.heap.size = b2) := hb2
  rw [hb2] at H2 H3 H4 ⊢
  clear hb2
  obtain ⟨T, hT⟩ : ∃ T : World → Prop, T = TgS w1 (b2 + 1 + 1) b2 (b2 + 1) [vr, vw, .int .u64 tx] [vr', vw', .int .u64 ty] := ⟨_, rfl⟩
  have HT : Hid (T = TgS w1 (b2 + 1 + 1) b2 (b2 + 1) [vr, vw, .int .u64 tx] [vr', vw', .int .u64 ty]) := hT
  have hC : T w1.drew := by rw [hT]; exact ⟨(Fr.refl _ w1).drew, H2.out, H3.out, ⟨_, rfl, H4.out⟩, by omega, by omega⟩
  have hCt : Hid (∀ W W', T W → Below W.heap.size W W' → T W') := by rw [hT]; exact fun W W' h hb => h.fresh hb
  obtain ⟨f0, f1, f2, HX0⟩ : ∃ f0 f1 f2 : World → Value, ∀ W, T W → W.cell? ⟨b2 + 1 + 1, 0, none⟩ = some (f0 W) ∧ W.cell? ⟨b2 + 1 + 1, 1, none⟩ = some (f1 W) ∧ W.cell? ⟨b2 + 1 + 1, 2, none⟩ = some (f2 W) ∧ W.frozen? ⟨b2 + 1 + 1, 0, none⟩ = false ∧ W.frozen? ⟨b2 + 1 + 1, 1, none⟩ = false ∧ W.frozen? ⟨b2 + 1 + 1, 2, none⟩ = false := by
    rw [hT]
    exact ⟨_, _, _, fun W h => h.box⟩
  have hCc : Hid (∀ W, T W → T W ∧ W.cell? ⟨b2, 0, none⟩ = some vr ∧ W.cell? ⟨b2, 1, none⟩ = some vw ∧ W.cell? ⟨b2, 2, none⟩ = some (.int .u64 tx) ∧ W.cell? ⟨b2 + 1, 0, none⟩ = some vr' ∧ W.cell? ⟨b2 + 1, 1, none⟩ = some vw' ∧ W.cell? ⟨b2 + 1, 2, none⟩ = some (.int .u64 ty) ∧ W.cell? ⟨b2 + 1 + 1, 0, none⟩ = some (f0 W) ∧ W.cell? ⟨b2 + 1 + 1, 1, none⟩ = some (f1 W) ∧ W.cell? ⟨b2 + 1 + 1, 2, none⟩ = some (f2 W) ∧ W.frozen? ⟨b2 + 1 + 1, 0, none⟩ = false ∧ W.frozen? ⟨b2 + 1 + 1, 1, none⟩ = false ∧ W.frozen? ⟨b2 + 1 + 1, 2, none⟩ = false) := by
    intro W h
    have h1 := HX0 W h
    rw [hT] at h
    exact ⟨by rw [hT]; exact h, h.cells.2.1, h.cells.2.2.1, h.cells.2.2.2.1, h.cells.2.2.2.2.1, h.cells.2.2.2.2.2.1, h.cells.2.2.2.2.2.2, h1⟩
  have HC1 : Hid (∀ W, T W → Calls Try.prog 65 #[vr, vr'] W (JoinPost x.reads y.reads W)) := by rw [hT]; exact fun W h => joinFn (row_lt HR.out h.fr (by have := HBB.out; omega)) (row_lt HR'.out h.fr (by have := HBB.out; omega)) HX.out.1 HY.out.1
  have HC2 : Hid (∀ W, T W → Calls Try.prog 65 #[vw, vw'] W (JoinPost x.writes y.writes W)) := by rw [hT]; exact fun W h => joinFn (row_lt HW.out h.fr (by have := HBB.out; omega)) (row_lt HW'.out h.fr (by have := HBB.out; omega)) HX.out.2.1 HY.out.2.1
  have HT4 : Hid (∀ W, T W → ∃ c4 : List Value, c4.length = 3 ∧ Holds W (b2 + 1 + 1) 25 c4) := by rw [hT]; exact fun W h => h.h4
  have HTP : Hid (∀ W W' xs, T W → W' = setR W (b2 + 1 + 1) 0 xs → xs.length = 3 → T W' ∧ Holds W' (b2 + 1 + 1) 25 xs) := by rw [hT]; exact fun W W' xs h h1 h2 => h.put h1 h2
  have hCs : Hid (∀ W p q r, T W → T (setR W (b2 + 1 + 1) 0 [p, q, r])) := fun W p q r h => (HTP.out W _ [p, q, r] h rfl rfl).1
  have hS0 := Lib.hid (hCc.out _ hC)
  clear hC hT HX0 HR HR' HW HW' H2 H3 H4 HX HY
  go_region_held3 (fun W : World => T W ∧ W.cell? ⟨b2, 0, none⟩ = some vr ∧ W.cell? ⟨b2, 1, none⟩ = some vw ∧ W.cell? ⟨b2, 2, none⟩ = some (.int .u64 tx) ∧ W.cell? ⟨b2 + 1, 0, none⟩ = some vr' ∧ W.cell? ⟨b2 + 1, 1, none⟩ = some vw' ∧ W.cell? ⟨b2 + 1, 2, none⟩ = some (.int .u64 ty) ∧ W.cell? ⟨b2 + 1 + 1, 0, none⟩ = some (f0 W) ∧ W.cell? ⟨b2 + 1 + 1, 1, none⟩ = some (f1 W) ∧ W.cell? ⟨b2 + 1 + 1, 2, none⟩ = some (f2 W) ∧ W.frozen? ⟨b2 + 1 + 1, 0, none⟩ = false ∧ W.frozen? ⟨b2 + 1 + 1, 1, none⟩ = false ∧ W.frozen? ⟨b2 + 1 + 1, 2, none⟩ = false) (first | exact (hCc.out _ (hCs.out _ _ _ _ (And.left (by assumption)))) | exact hS2.out | exact hS1.out | exact hS0.out) (first
    | (have hq := HVA; clear hq; go_at_call 65; refine (HC2.out _ (And.left (by assumption))).mono ?_; rintro e wc ⟨hbc, vc, rfl, hvc⟩; obtain ⟨ac, kc, rfl, _, _, _⟩ := hvc.form; have hS2 := Lib.hid (hCc.out _ (hCt.out _ _ (And.left (by assumption)) hbc)); have HVC := Lib.hid hvc; have HBC := Lib.hid hbc; clear hbc hvc)
    | (go_at_call 65; refine (HC1.out _ (And.left (by assumption))).mono ?_; rintro e wa ⟨hba, va, rfl, hva⟩; obtain ⟨aa, ka, rfl, _, _, _⟩ := hva.form; have hS1 := Lib.hid (hCc.out _ (hCt.out _ _ (And.left (by assumption)) hba)); have HVA := Lib.hid hva; have HBA := Lib.hid hba; clear hba hva))
  obtain ⟨w5, hw5⟩ : ∃ W, W = setR wc (b2 + 1 + 1) 0 [.slice aa (joinP x.reads y.reads).length ka, .slice ac (joinP x.writes y.writes).length kc, .int .u64 (bits BinOp.or IntKind.u64 tx ty)] := ⟨_, rfl⟩
  obtain ⟨hp, hp5⟩ := HTP.out wc w5 _ (And.left hS2.out) hw5 rfl
  have hf5 : Fr (fun q => q = b2 + 1 + 1) wc w5 := by rw [hw5]; exact Fr.setRX _ _ 0 _
  have ht := hp
  rw [HT.out] at ht
  have hz : Below w.heap.size w w5 := HB1.out.trans (ht.fr.to_below (B := w.heap.size) HB1.out.size fun k hk e => by have := HBB.out; omega)
  have h41 := ht.h4
  obtain ⟨c4, _, h42⟩ := h41
  have hs1 : b2 + 1 + 1 < w1.heap.size := by
    have h1 := hS0.out.1
    rw [HT.out] at h1
    obtain ⟨c5, _, h5⟩ := h1.h4
    exact h5.lt
  have ha := row_fr (HVA.out.up (Keep.below HBC.out)) hf5 hs1
  have hc := row_fr HVC.out hf5 (by have h1 : w1.heap.size ≤ wa.heap.size := HBA.out.size; omega)
  have HBZ := Lib.hid hz
  have HA : Hid (RowL (From w.heap.size) w5 1 (.slice aa (joinP x.reads y.reads).length ka) (togP x y).reads.length ((togP x y).reads.map intV)) := ha.mono (Wide.from HB1.out.size)
  have HC : Hid (RowL (From w.heap.size) w5 1 (.slice ac (joinP x.writes y.writes).length kc) (togP x y).writes.length ((togP x y).writes.map intV)) := hc.mono (Wide.from (Nat.le_trans HB1.out.size HBA.out.size))
  have HP5 := Lib.hid hp5
  rw [show (((wc.setCell { block := b2 + 1 + 1, off := 0 } (Value.slice aa (joinP x.reads y.reads).length ka)).setCell { block := b2 + 1 + 1, off := 1 } (Value.slice ac (joinP x.writes y.writes).length kc)).setCell { block := b2 + 1 + 1, off := 2 } (Value.int IntKind.u64 (bits BinOp.or IntKind.u64 tx ty))) = w5 from hw5.symm]
  clear hw5 hp hp5 hf5 ht hz h42 ha hc hS0 hS1 hS2 hCc hCt hCs HTP HC1 HC2 HVA HVC HBA HBC
  go_wp2
  refine bodyPost_ret (outBox Try.results56 HP5.out rfl _ Try.underlying25 rfl foot_len) rfl ?_
  exact ⟨HBZ.out, _, rfl, _, _, by rw [HTO.out], HA.out, HC.out⟩
end Go.Proofs.Ytcopoaaofjeklaa.G
