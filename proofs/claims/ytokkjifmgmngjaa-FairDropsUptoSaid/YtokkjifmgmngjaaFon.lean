/- The statements' little graphs with copies: by evaluation. -/
import Derived.Test.YtokkjifmgmngjaaFcy
import Derived.Test.YtokkjifmgmngjaaMg9
namespace Go.Proofs.Ytokkjifmgmngjaa.G
open Go.RowKit Go.Maps
set_option linter.unusedVariables false
set_option linter.unusedSimpArgs false

def oneN (h : Bool) : PNet := [⟨⟨0, 0, 0, [], [], 0⟩ :: (if h then [⟨1, 1, 0, [], [], 0⟩] else []), 0, false, false, true⟩, zeroN]
theorem one_chk (h : Bool) : chk (oneN h) = true := by cases h <;> decide
theorem one_small (h : Bool) : Small (oneN h) := by
  have key : ∀ x ∈ oneN h, ∀ a ∈ x.arcs, a.reads.length ≤ 2000000 ∧ a.writes.length ≤ 2000000 := by cases h <;> decide
  exact ⟨by cases h <;> decide, by cases h <;> decide, fun i hi j hj => key _ (List.getElem_mem hi) _ (List.getElem_mem hj)⟩
theorem one_cyc (h : Bool) : ∃ st g, exF (csys (gsys (oneN h)) 2) 20 20001 0 0 [(csys (gsys (oneN h)) 2).beg] = some (st, g) ∧ 0 < g.length ∧ (∀ x ∈ g, ∀ a ∈ x.arcs, a.bad = 0 → 0 ≤ a.to ∧ a.to.toNat < g.length) ∧ cycleP g = !h := by
  have key : ((exF (csys (gsys (oneN h)) 2) 20 20001 0 0 [(csys (gsys (oneN h)) 2).beg]).map fun p => decide (0 < p.2.length) && decide (∀ x ∈ p.2, ∀ a ∈ x.arcs, a.bad = 0 → 0 ≤ a.to ∧ a.to.toNat < p.2.length) && (cycleP p.2 == !h)) = some true := by
    cases h <;> decide +kernel
  cases he : exF (csys (gsys (oneN h)) 2) 20 20001 0 0 [(csys (gsys (oneN h)) 2).beg] with
  | none => rw [he] at key; cases key
  | some p =>
    rw [he] at key
    simp only [Option.map_some, Option.some.injEq, Bool.and_eq_true, decide_eq_true_eq, beq_iff_eq] at key
    exact ⟨p.1, p.2, rfl, key.1.1, key.1.2, key.2⟩
def OnePost (h : Bool) (w : World) (e : Ending) (w' : World) : Prop := Below w.heap.size w w' ∧ ∃ v, e = .returned (.agg #[v]) ∧ NetV (From w.heap.size) w' v (oneN h)
def oneArcs (h : Bool) : List PArc := ⟨0, 0, 0, [], [], 0⟩ :: (if h then [⟨1, 1, 0, [], [], 0⟩] else [])
theorem one_net {base bn : Nat} {W : World} {va : Value} {h : Bool} (hN : Holds W bn 51 [va, .int .u64 0, .bool false, .bool false, .bool true, .slice none 0 0, .int .u64 0, .bool false, .bool false, .bool false]) (hb : base ≤ bn) (ha : ArcsV (From base) W va (oneArcs h)) : NetV (From base) W (.slice (some ⟨bn, 0, none⟩) 2 2) (oneN h) := by
  refine ⟨_, RowL.of_holds (n := 2) hN hb (by omega) rfl, ?_⟩
  refine ⟨[va, .int .u64 0, .bool false, .bool false, .bool true], [.slice none 0 0, .int .u64 0, .bool false, .bool false, .bool false], rfl, ⟨va, rfl, ha⟩, ?_⟩
  exact ⟨_, [], (List.append_nil _).symm, ⟨_, rfl, [], RowL.nil _ _ _, rfl⟩, rfl⟩
def arc0 (p t : Int) : List Value := [.int .i64 p, .int .i64 t, .int .i64 0, .slice none 0 0, .slice none 0 0, .int .u64 0]
theorem one_arcs1 {base : Nat} {W : World} {va : Value} (h : W.ownsRow base 56 6 va 1 (arc0 0 0)) : ArcsV (From base) W va (oneArcs false) :=
  ⟨_, RowL.of_owns h fun _ h => h, _, [], (List.append_nil _).symm, ⟨_, _, rfl, RowL.nil _ _ _, RowL.nil _ _ _⟩, rfl⟩
theorem one_arcs2 {base : Nat} {W : World} {va : Value} (h : W.ownsRow base 56 6 va 2 (arc0 0 0 ++ arc0 1 1)) : ArcsV (From base) W va (oneArcs true) :=
  ⟨_, RowL.of_owns h fun _ h => h, _, _, rfl, ⟨_, _, rfl, RowL.nil _ _ _, RowL.nil _ _ _⟩, _, [], (List.append_nil _).symm, ⟨_, _, rfl, RowL.nil _ _ _, RowL.nil _ _ _⟩, rfl⟩
set_option maxHeartbeats 1000000 in
set_option maxRecDepth 100000 in
theorem oneFn (h : Bool) (w : World) : Calls Try.prog 15 #[.bool h] w (OnePost h w) := by
  obtain ⟨w1, hw1⟩ : ∃ W, W = ((w.alloc (.cells #[.slice none 0 0] 24)).alloc (.cells (arc0 0 0).toArray 56)).alloc (.cells #[.slice (some ⟨w.heap.size + 1, 0, none⟩) 1 1, .int .u64 0, .bool false, .bool false, .bool true] 51) := ⟨_, rfl⟩
  have hb1 : Below w.heap.size w w1 := by rw [hw1]; exact (((Below.refl _ _).alloc (Nat.le_refl _) _).alloc (by simp) _).alloc (by simp; omega) _
  have h0 : Holds w1 w.heap.size 24 [.slice none 0 0] := by rw [hw1]; exact ((Holds.new w 24 #[.slice none 0 0]).alloc _).alloc _
  have ha : w1.ownsRow (w.heap.size + 1) 56 6 (.slice (some ⟨w.heap.size + 1, 0, none⟩) 1 1) 1 (arc0 0 0) := by
    have h := (Holds.new (w.alloc (.cells #[.slice none 0 0] 24)) 56 (arc0 0 0).toArray).alloc (.cells #[.slice (some ⟨w.heap.size + 1, 0, none⟩) 1 1, .int .u64 0, .bool false, .bool false, .bool true] 51)
    simp only [World.size_alloc] at h
    rw [hw1]
    exact owns_lit h (Nat.le_refl _) rfl (by omega)
  have hx : Holds w1 (w.heap.size + 1 + 1) 51 [.slice (some ⟨w.heap.size + 1, 0, none⟩) 1 1, .int .u64 0, .bool false, .bool false, .bool true] := by
    have h := Holds.new ((w.alloc (.cells #[.slice none 0 0] 24)).alloc (.cells (arc0 0 0).toArray 56)) 51 #[.slice (some ⟨w.heap.size + 1, 0, none⟩) 1 1, .int .u64 0, .bool false, .bool false, .bool true]
    simp only [World.size_alloc] at h
    rw [hw1]; exact h
  have HB1 := Lib.hid hb1
  have H0 := Lib.hid h0
  have HA := Lib.hid ha
  have HX := Lib.hid hx
  clear hb1 h0 ha hx
  unfold arc0 at hw1
  go_enter Try.func15, Try.ntmps15
  go_upto_if 7 with (fail)
  rw [← hw1]
  clear hw1
  obtain ⟨b0, hb0⟩ : ∃ b, w.heap.size = b := ⟨_, rfl⟩
  obtain ⟨ba, hba⟩ : ∃ b, w.heap.size + 1 = b := ⟨_, rfl⟩
  obtain ⟨bx, hbx⟩ : ∃ b, w.heap.size + 1 + 1 = b := ⟨_, rfl⟩
  have HL2 : Hid (ba < bx) := by show _ < _; omega
  have HL : Hid (w.heap.size ≤ b0 ∧ w.heap.size ≤ bx ∧ b0 ≠ bx ∧ w.heap.size = b0 ∧ ba = b0 + 1 ∧ ba ≤ w1.heap.size) := by have := HX.out.lt; show _ ∧ _; omega
  rw [hbx] at HX ⊢
  rw [hba] at HX HA ⊢
  rw [hb0] at H0 ⊢
  clear hb0 hba hbx
  go_cut [] (fun wx => ∃ va, Hid (Holds wx bx 51 [va, .int .u64 0, .bool false, .bool false, .bool true]) ∧ Hid (Holds wx b0 24 [.slice none 0 0]) ∧ Hid (ArcsV (From ba) wx va (oneArcs h)) ∧ Hid (Below w.heap.size w wx))
  case first =>
    cases h with
    | false =>
      go_wp2
      go_meet
      case rel => exact ⟨_, HX, H0, one_arcs1 HA.out, HB1⟩
    | true =>
      have e0 := HX.out.cell 0
      simp only [List.getElem?_cons_zero] at e0
      obtain ⟨i0, z0, hi0, hz0, hz1, hz2, hz3⟩ := info_of info_arc
      go_wp2_with (at_builtin; refine wpList_append_own_at _ rfl (.tmp 9) (.tmp 11) _ rfl ba 56 i0 z0 6 80 Try.underlying49 hi0 hz0 hz1 hz2 hz3 (by omega) (.slice (some ⟨ba, 0, none⟩) 1 1) 1 (arc0 0 0) rfl (owns_below HA.out ((Below.refl _ _).alloc (Nat.le_refl _) _)) ⟨w1.heap.size, 0, none⟩ 1 1 (arc0 1 1) rfl rfl ?c1 ?c2 ?c3 ?c4 ?c5 ?_)
      case c1 => exact fun j u hu => by rw [Addr.add_lit, Nat.zero_add]; exact ((Holds.new w1 56 (arc0 1 1).toArray).cell j).trans hu
      case c2 => simp [arc0, Value.oneCell']
      case c3 => unfold maxLen; omega
      case c4 => omega
      case c5 => have := HL.out; simp; omega
      intro v' w5 hown hgrow _ _
      obtain ⟨av4, cv4, rfl, _, _⟩ := owns_form hown
      have hA1 := owns_below HA.out ((Below.refl w1.heap.size w1).alloc (Nat.le_refl _) (.cells (arc0 1 1).toArray 56))
      have hX1 := HX.out.alloc (.cells (arc0 1 1).toArray 56)
      have h01 := H0.out.alloc (.cells (arc0 1 1).toArray 56)
      have hX5 : Holds w5 bx 51 [.slice (some ⟨ba, 0, none⟩) 1 1, .int .u64 0, .bool false, .bool false, .bool true] := hX1.of_eq (hgrow.block _ hX1.lt fun he => owns_ne_holds hA1 hX1 (by decide) he.symm)
      have h05 : Holds w5 b0 24 [.slice none 0 0] := h01.of_eq (hgrow.block _ h01.lt fun he => owns_ne_holds hA1 h01 (by decide) he.symm)
      have hb5 : Below w.heap.size w w5 := (HB1.out.alloc HB1.out.size _).grown hgrow (by have := HB1.out.size; simp; omega) fun k hk => by have := (hA1.lt k hk).1; have := HL.out; omega
      have HX5 := Lib.hid hX5
      have H05 := Lib.hid h05
      have HB5 := Lib.hid hb5
      have HO5 := Lib.hid hown
      clear hown hgrow hA1 hX1 h01 hX5 h05 hb5 e0
      go_wp2_with (refine wpList_store1 rfl 49 _ _ rfl bx 0 (.slice av4 2 cv4) rfl rfl HX5.out (Nat.le_of_ble_eq_true rfl) sz_Arcs rfl rfl ?_)
      refine Named.mk (fun w6 hw6 => ?_)
      have hf : Fr (fun q => q = bx) w5 w6 := by rw [hw6]; exact Fr.setRX _ _ 0 _
      have hX6 : Hid (Holds w6 bx 51 [.slice av4 2 cv4, .int .u64 0, .bool false, .bool false, .bool true]) := HX5.out.stored hw6 (Nat.le_of_ble_eq_true rfl)
      have h06 := Lib.hid (hf.holds H05.out (by have := HL.out; omega))
      have hb6 : Hid (Below w.heap.size w w6) := HB5.out.trans (hf.to_below HB5.out.size fun q hq e => by have := HL.out; have e : q = bx := e; omega)
      have hA6 : Hid (ArcsV (From ba) w6 (.slice av4 2 cv4) (oneArcs true)) := one_arcs2 (hf.owns HO5.out fun g hg e => owns_ne_holds HO5.out HX5.out (by decide) (by rw [hg, e]))
      clear hw6 hf
      go_wp2
      go_meet
      case rel => exact ⟨_, hX6, h06, hA6, hb6⟩
  case rest =>
    obtain ⟨va, HX4, H04, HA4, HB4⟩ := hcut
    have HRG := Lib.hid (HX4.out.range (i := 0) (n := 5) (xs := [va, .int .u64 0, .bool false, .bool false, .bool true]) rfl)
    obtain ⟨w5, hw5⟩ : ∃ W, W = wc.alloc (.cells #[va, .int .u64 0, .bool false, .bool false, .bool true, .slice none 0 0, .int .u64 0, .bool false, .bool false, .bool false] 51) := ⟨_, rfl⟩
    have hb5 : Below wc.heap.size wc w5 := by rw [hw5]; exact (Below.refl _ _).alloc (Nat.le_refl _) _
    have hn5 : Holds w5 wc.heap.size 51 [va, .int .u64 0, .bool false, .bool false, .bool true, .slice none 0 0, .int .u64 0, .bool false, .bool false, .bool false] := by rw [hw5]; exact Holds.new wc 51 #[va, .int .u64 0, .bool false, .bool false, .bool true, .slice none 0 0, .int .u64 0, .bool false, .bool false, .bool false]
    have hzz : ba ≤ wc.heap.size := by
      have := HX4.out.lt
      have := HL2.out
      omega
    have hz : (some va.cells.size) = some 1 := by obtain ⟨_, k, _⟩ := HA4.out; obtain ⟨_, _, rfl, _⟩ := k.form; rfl
    obtain ⟨fa, ra, ga⟩ := HA4.out
    obtain ⟨aa, ac, rfl, _, _, _⟩ := ra.form
    have H05 := Lib.hid (H04.out.belowAll hb5)
    have HN5 := Lib.hid (one_net hn5 (show ba ≤ wc.heap.size from hzz) (show ArcsV (From ba) w5 _ (oneArcs h) from ⟨fa, ra.up (Keep.below hb5), LsF.up (fun _ _ => oneArc.up (Keep.below hb5)) _ ga⟩))
    have HB5 : Hid (Below w.heap.size w w5) := HB4.out.trans (hb5.mono HB4.out.size)
    clear hb5 hn5 hz ra ga HB1 H0 HA HX
    go_wp2_with (first | (refine wpList_load_mid rfl 51 _ rfl bx 0 rfl [.slice aa (oneArcs h).length ac, .int .u64 0, .bool false, .bool false, .bool true] _ HRG.out Try.underlying51 rfl sz_Node ?_) | (refine wpList_storeB rfl 24 _ _ rfl b0 0 [.slice (some ⟨wc.heap.size, 0, none⟩) 2 2] rfl rfl (by rw [← hw5]; exact H05.out) (Nat.le_of_ble_eq_true rfl) sz_Net rfl ?_))
    rw [← hw5]
    clear hw5
    refine Named.mk (fun w6 hw6 => ?_)
    have hf6 : Fr (fun q => q = b0) w5 w6 := by rw [hw6]; exact Fr.setRX _ _ 0 _
    have h06 : Hid (Holds w6 b0 24 [.slice (some ⟨wc.heap.size, 0, none⟩) 2 2]) := H05.out.stored hw6 (Nat.le_of_ble_eq_true rfl)
    have HF : Hid (OnePost h w (.returned (.agg #[.slice (some ⟨wc.heap.size, 0, none⟩) 2 2])) w6) := by
      refine ⟨HB5.out.trans (hf6.to_below HB5.out.size fun q hq e => by have := HL.out; have e : q = b0 := e; omega), _, rfl, ?_⟩
      refine (HN5.out.up (w' := w6) fun q hq hs => hf6.block q hs fun e => ?_).mono (Wide.from (by have := HL.out; omega))
      have := HL.out
      have e : q = b0 := e
      have hq : ba ≤ q := hq
      omega
    clear hw6 hf6 HN5 HB5 H05 HRG
    go_wp2
    refine bodyPost_ret (outBox Try.results15 h06.out rfl _ Try.underlying24 rfl sz_Net) rfl ?_
    exact HF.out
end Go.Proofs.Ytokkjifmgmngjaa.G
