/- The walk of graph.Next's iterator (printed by mkiter.py). -/
import Derived.Test.YtpednhcfkjjcpaaRng
import Derived.OwnWalkIn
import Derived.LoopIn
namespace Go.Proofs.Ytpednhcfkjjcpaa
open Go.RowKit
set_option linter.unusedVariables false
set_option linter.unusedSimpArgs false
attribute [local go_sem] Oper.semAt_some

/-- A row of numbers of the callee's own. -/
def RowX (lo : Nat) (w : World) (v : Value) (l : List Int) : Prop := (v = .slice none 0 0 ∨ w.ownsRow lo 3 1 v l.length (l.map intV)) ∧ RowL (From lo) w 1 v l.length (l.map intV)
theorem RowX.below {lo : Nat} {w w' : World} {v : Value} {l : List Int} (h : RowX lo w v l) (hb : Below w.heap.size w w') : RowX lo w' v l := ⟨h.1.imp id fun h => owns_below h hb, h.2.up (Keep.below hb)⟩
def toS (a : PArc) : ByteArray := if a.bad = 0 then ⟨(enc a.to.toNat).toArray⟩ else ⟨#[]⟩
def mvC (k : Nat) (a : PArc) (s : ByteArray) (vr vw : Value) : List Value := [.int .i64 a.proc, .int .i64 (k : Int), .int .i64 (-1), .int .i64 (-1), .string s, .int .i64 a.bad, vr, vw, .int .u64 (a.turns : Int)]
/-- What the iterator hands over in its round k. -/
def Tells (l : List PArc) (pre : List Value) (x : Value) (W0 W : World) : Prop := ∃ (h : pre.length < l.length) (vr vw : Value), x = .agg (mvC pre.length l[pre.length] (toS l[pre.length]) vr vw).toArray ∧ RowX W0.heap.size W vr l[pre.length].reads ∧ RowX W0.heap.size W vw l[pre.length].writes
theorem abide_below {α : Type} {B : Nat} {J : List α → World → Prop} (h : OwnFrom B J) {s : List α} {w w' : World} (hb : Below w.heap.size w w') (hj : J s w) : J s w' := h s w w' none hj ⟨hb.os, hb.tape, hb.output, hb.size, fun k hk _ => hb.block k hk⟩ (fun r e => by cases e)
theorem nodeOf_mem {N : PNet} {s : Bs} {x : PNode} (h : nodeOf N s = some x) : ∃ (k : Nat) (hk : k < N.length), N[k] = x := by
  unfold nodeOf at h
  split at h
  · obtain ⟨hk, he⟩ := List.getElem?_eq_some_iff.1 h
    exact ⟨_, hk, he⟩
  · cases h
theorem nodeOf_small {N : PNet} (hs : Small N) (s : Bs) : ((nodeOf N s).getD zeroN).arcs.length ≤ 2000000 := by
  cases h : nodeOf N s with
  | none => exact Nat.zero_le _
  | some x =>
    obtain ⟨k, hk, rfl⟩ := nodeOf_mem h
    have := node_le hk
    have := hs.arcs
    simp only [Option.getD_some]
    omega
theorem nodeOf_rows {N : PNet} (hs : Small N) {s : Bs} {k : Nat} (hk : k < ((nodeOf N s).getD zeroN).arcs.length) : ((nodeOf N s).getD zeroN).arcs[k].reads.length ≤ 2000000 ∧ ((nodeOf N s).getD zeroN).arcs[k].writes.length ≤ 2000000 := by
  revert hk
  cases h : nodeOf N s with
  | none => intro hk; exact absurd hk (Nat.not_lt_zero _)
  | some x =>
    obtain ⟨i, hi, rfl⟩ := nodeOf_mem h
    intro hk
    exact hs.reads i hi k hk
theorem nodeOf_to {N : PNet} (hs : ∀ x ∈ N, ∀ a ∈ x.arcs, 0 ≤ a.to ∧ a.to < 9223372036854775808) {s : Bs} {k : Nat} (hk : k < ((nodeOf N s).getD zeroN).arcs.length) : 0 ≤ ((nodeOf N s).getD zeroN).arcs[k].to ∧ ((nodeOf N s).getD zeroN).arcs[k].to < 9223372036854775808 := by
  revert hk
  cases h : nodeOf N s with
  | none => intro hk; exact absurd hk (Nat.not_lt_zero _)
  | some x =>
    obtain ⟨i, hi, rfl⟩ := nodeOf_mem h
    intro hk
    exact hs _ (List.getElem_mem hi) _ (List.getElem_mem hk)
theorem owns_wide {w : World} {b b' sz n : Nat} {t : TypeId} {v : Value} {xs : List Value} (h : w.ownsRow b t sz v n xs) (hb : b' ≤ b) : w.ownsRow b' t sz v n xs := ⟨h.1, h.2.imp id fun ⟨g, cap, cur, hv, hg, rest⟩ => ⟨g, cap, cur, hv, Nat.le_trans hb hg, rest⟩⟩
theorem RowX.clone {w w' : World} {v : Value} {l : List Int} {b : Nat} (h : v = .slice none 0 0 ∨ w'.ownsRow w.heap.size 3 1 v l.length (l.map intV)) (h2 : RowL (From w.heap.size) w' 1 v l.length (l.map intV)) (hb : b ≤ w.heap.size) : RowX b w' v l := ⟨h.imp id fun h => owns_wide h hb, h2.mono (Wide.from hb)⟩
theorem RowX.wide {lo lo' : Nat} {w : World} {v : Value} {l : List Int} (h : RowX lo w v l) (hb : lo' ≤ lo) : RowX lo' w v l := ⟨h.1.imp id fun h => owns_wide h hb, h.2.mono (Wide.from hb)⟩
theorem sz_Str : (Try.prog.info? 9).map (·.size) = some 1 := by kernel_rfl
theorem RowX.cells {lo : Nat} {w : World} {v : Value} {l : List Int} (h : RowX lo w v l) : v.cells = #[v] := by
  obtain ⟨_, _, rfl, _⟩ := h.2.form
  rfl
theorem RowX.store {lo X : Nat} {w w' : World} {v : Value} {l : List Int} {cs : List Value} (h : RowX lo w v l) (hx : Holds w X 75 cs) (hf : Fr (fun q => q = X) w w') : RowX lo w' v l := by
  rcases h.1 with rfl | ho
  · refine ⟨.inl rfl, ?_⟩
    obtain ⟨a, c, h1, _⟩ := h.2.form
    injection h1 with _ h1 _
    obtain rfl : l = [] := List.eq_nil_of_length_eq_zero h1.symm
    exact RowL.nil _ _ _
  · have ho2 := hf.owns ho fun g hg e => owns_ne_holds ho hx (by decide) (by rw [hg, e])
    exact ⟨.inr ho2, RowL.of_owns ho2 fun _ h => h⟩
/-- What region 4 keeps. -/
structure ItW (w7 : World) (a : PArc) (k : Nat) (r : Value × Value × Nat) (L : Array Bool) (w2 : World) : Prop where
  below : Below w7.heap.size w7 w2
  reads : L.getD 7 false = true → RowX w7.heap.size w2 r.1 a.reads
  writes : L.getD 10 false = true → RowX w7.heap.size w2 r.2.1 a.writes
  box : L.getD 14 false = true → w7.heap.size ≤ r.2.2 ∧ Holds w2 r.2.2 75 (if L.getD 15 false then mvC k a ⟨#[]⟩ r.1 r.2.1 else [.int .i64 0, .int .i64 0, .int .i64 0, .int .i64 0, .string ⟨#[]⟩, .int .i64 0, .slice none 0 0, .slice none 0 0, .int .u64 0])
  o13 : L.getD 13 false = true → L.getD 7 false = true ∧ L.getD 10 false = true
  o15 : L.getD 15 false = true → L.getD 7 false = true ∧ L.getD 10 false = true ∧ L.getD 14 false = true
theorem ItW.pure {w7 w2 : World} {a : PArc} {k : Nat} {r : Value × Value × Nat} {L : Array Bool} (i : Nat) (h7 : i ≠ 7) (h10 : i ≠ 10) (h13 : i ≠ 13) (h14 : i ≠ 14) (h15 : i ≠ 15) (h : ItW w7 a k r L w2) : ItW w7 a k r (L.setIfInBounds i true) w2 := by
  refine ⟨h.below, ?_, ?_, ?_, ?_, ?_⟩
  · rw [gd_ne h7.symm]; exact h.reads
  · rw [gd_ne h10.symm]; exact h.writes
  · rw [gd_ne h14.symm, gd_ne h15.symm]; exact h.box
  · rw [gd_ne h7.symm, gd_ne h10.symm, gd_ne h13.symm]; exact h.o13
  · rw [gd_ne h7.symm, gd_ne h10.symm, gd_ne h14.symm, gd_ne h15.symm]; exact h.o15
theorem no_depth {n : Nat} : Fence.wide.depth.isSome = true → 1 ≤ n := fun h => by simp [Fence.wide] at h
section
variable {F : Fence} {n : Nat} {P : Program} {W : World} {ops : Array Oper} {rest : List Oper} {o : Oper} {a : Act} {Q : Exit → Act → World → Prop} {t : TypeId} {cs : List Value}
theorem wpListIn_storeB (hgd : o.guard = none) (ty : TypeId) (x y : Operand) (ho : o.op = .store ty x y) (b i : Nat) (xs : List Value) (hx : a.eval x = .pointer (some ⟨b, i, none⟩)) (hy : a.eval y = .agg xs.toArray)
    (h : Holds W b t cs) (hl : i + xs.length ≤ cs.length) (hi : (P.info? ty).map (·.size) = some xs.length) (h1 : xs.all (·.oneCell') = true)
    (hk : Named (setR W b i xs) fun w' => wpListIn F n P ops Q rest (a.put o.dst undef) w') : wpListIn F n P ops Q (o :: rest) a W := by
  refine wpListIn_plain hgd fun K hK => ?_
  unfold Oper.wpIn
  refine ⟨by simp [Oper.about, ho], ?_⟩
  rw [Oper.semAt_plain F _ _ (by rw [ho]; intro c hc'; cases hc')]
  unfold execOp
  simp only [ho, hx, hy, Sem.run_bind, Sem.run_pure, Result.andThen_ok, storeN h hl hi h1]
  exact hK _ _ (hk _ rfl)
theorem wpListIn_store1 (hgd : o.guard = none) (ty : TypeId) (x y : Operand) (ho : o.op = .store ty x y) (b i : Nat) (v : Value) (hx : a.eval x = .pointer (some ⟨b, i, none⟩)) (hy : a.eval y = v)
    (h : Holds W b t cs) (hl : i < cs.length) (hi : (P.info? ty).map (·.size) = some 1) (hv : v.cells = #[v]) (h1 : v.oneCell' = true)
    (hk : Named (setR W b i [v]) fun w' => wpListIn F n P ops Q rest (a.put o.dst undef) w') : wpListIn F n P ops Q (o :: rest) a W := by
  refine wpListIn_plain hgd fun K hK => ?_
  unfold Oper.wpIn
  refine ⟨by simp [Oper.about, ho], ?_⟩
  rw [Oper.semAt_plain F _ _ (by rw [ho]; intro c hc'; cases hc')]
  unfold execOp
  simp only [ho, hx, hy, Sem.run_bind, Sem.run_pure, Result.andThen_ok, store1 h hl hi hv h1]
  exact hK _ _ (hk _ rfl)
theorem wpListIn_load_mid (hgd : o.guard = none) (ty : TypeId) (x : Operand) (ho : o.op = .load ty x) (b i : Nat) (hx : a.eval x = .pointer (some ⟨b, i, none⟩)) (xs : List Value) (d : TypeDesc) (hc : W.rangeAt b i xs)
    (hu : P.underlying ty = some d) (hd : d.isRow = true) (hi : (P.info? ty).map (·.size) = some xs.length)
    (h : wpListIn F n P ops Q rest (a.put o.dst (.agg xs.toArray)) W) : wpListIn F n P ops Q (o :: rest) a W := by
  refine wpListIn_plain hgd fun K hK => ?_
  unfold Oper.wpIn
  refine ⟨by simp [Oper.about, ho], ?_⟩
  rw [Oper.semAt_plain F _ _ (by rw [ho]; intro c hc'; cases hc')]
  have hl := run_loadAt_mid (P := P) W b i ty xs d hc hu hd hi
  unfold execOp
  simp only [ho, hx, Sem.run_bind, Sem.run_pure, Result.andThen_ok, hl]
  exact hK _ _ h
end
set_option maxRecDepth 100000 in
set_option maxHeartbeats 4000000 in
theorem next1 (n n₀ : Nat) {P : Nat → Prop} {w : World} {N : PNet} {v f : Value} {s : ByteArray} {b0 b1 : Nat} (hv : NetV P w v N) (hP : ∀ k, P k → k < n₀) (hn₀ : n₀ ≤ w.heap.size) (hs : s.size ≤ 1048576) (hsm : Small N) (hto : ∀ x ∈ N, ∀ a ∈ x.arcs, 0 ≤ a.to ∧ a.to < 9223372036854775808)
    (h0 : Holds w b0 83 [v]) (h1 : Holds w b1 9 [.string s]) :
    SeqTells Fence.wide n Try.prog 79 #[.pointer (some ⟨b0, 0, none⟩), .pointer (some ⟨b1, 0, none⟩)] (fun x => #[x]) (Below n₀) (Tells ((nodeOf N s.data.toList).getD zeroN).arcs) (fun ys => ys.length = ((nodeOf N s.data.toList).getD zeroN).arcs.length) (fun _ => True) ((nodeOf N s.data.toList).getD zeroN).arcs.length w := fun l J Jx W hW hJ hJx hY hJ0 => by
  have HV := Lib.hid (hv.up (Keep.below hW))
  have hb0 := (h0.belowAll hW).cell 0
  have hb1 := (h1.belowAll hW).cell 0
  simp only [List.getElem?_cons_zero] at hb0 hb1
  have HC := Lib.hid (nodeFn HV.out hs)
  obtain ⟨x, hx⟩ : ∃ x, (nodeOf N s.data.toList).getD zeroN = x := ⟨_, rfl⟩
  rw [hx] at hY ⊢
  have HXX := Lib.hid hx
  have HYY := Lib.hid hY
  have HJJ := Lib.hid hJ
  have HJ0 := Lib.hid hJ0
  clear hx hY hJ hJ0 hv h0 h1
  refine callsIn_of_wp Try.func79 rfl trivial ?_ rfl
  simp only [Try.ntmps79, List.size_toArray, List.length_cons, List.length_nil, Nat.reduceAdd, Nat.reduceSub, Array.replicate_succ, Array.replicate_zero, List.push_toArray, List.append_toArray, List.nil_append, List.cons_append]
  gi_wp2_with fail
  refine ⟨trivial, no_depth, ?_⟩
  refine (callsIn_wide.2 HC.out).mono ?_
  rintro e w2 ⟨hb2, c, rfl, hnf⟩
  rw [HXX.out] at hnf
  have HB2 := Lib.hid hb2
  have hl := oneNode.len hnf
  have HO1 := Lib.hid (oneNode.one hnf)
  have hs1 : (Try.prog.info? 81).map (·.size) = some c.length := by rw [hl]; exact sz_Node
  have HZ : Hid (Holds (w2.alloc (.cells #[.slice none 0 0, .int .u64 0, .bool false, .bool false, .bool false] 81)) w2.heap.size 81 [.slice none 0 0, .int .u64 0, .bool false, .bool false, .bool false]) := Holds.new w2 81 #[.slice none 0 0, .int .u64 0, .bool false, .bool false, .bool false]
  have HNF := Lib.hid hnf
  clear HC hnf hb2 hb0 hb1
  gi_wp2_with (refine wpListIn_storeB rfl 81 _ _ rfl w2.heap.size 0 c rfl rfl HZ.out (by rw [hl]; exact Nat.le_of_ble_eq_true rfl) hs1 HO1.out ?_)
  refine Named.mk (fun w3 hW3 => ?_)
  have hB3 : Below w2.heap.size w2 w3 := by rw [hW3]; exact Below.far (Below.refl _ _) (Nat.le_refl _) _ _ _
  have hD3 := HZ.out.stored hW3 (by rw [hl]; exact Nat.le_of_ble_eq_true rfl)
  rw [List.take_zero, List.nil_append, List.drop_of_length_le (by rw [hl]; exact Nat.le_of_ble_eq_true rfl), List.append_nil] at hD3
  have HB3 := Lib.hid (HB2.out.trans (hB3.mono HB2.out.size))
  have hnf3 := oneNode.up (Keep.below hB3) HNF.out
  have HJ3 := Lib.hid (abide_below HJJ.out HB3.out HJ0.out)
  obtain ⟨va, rfl, fa, hra, hga⟩ := hnf3
  obtain ⟨aa, ac, rfl, hac, _, _⟩ := hra.form
  obtain ⟨K, hK⟩ : ∃ K, x.arcs.length = K := ⟨_, rfl⟩
  have e0 := hD3.cell 0
  simp only [List.getElem?_cons_zero] at e0
  have HK := Lib.hid hK
  have HRA := Lib.hid hra
  have HGA := Lib.hid hga
  have HD3 := Lib.hid hD3
  obtain ⟨X, hX⟩ : ∃ X, w2.heap.size = X := ⟨_, rfl⟩
  rw [hX] at e0 ⊢
  rw [hK] at e0 HYY hac ⊢
  clear hW3 hB3 hD3 HZ hs1 HO1 HB2 hl hra hga hK hX HNF HJ0
  gi_wp2
  have hkm : K ≤ 2000000 := by have := nodeOf_small hsm s.data.toList; rw [HXX.out, HK.out] at this; exact this
  gi_loopw [18] (fun i wr => ∃ (k : Nat) (pre : List Value), i = .int .i64 (k : Int) ∧ k ≤ K ∧ pre.length = k ∧ Hid (J pre wr) ∧ Hid (Below n₀ w3 wr)) (fun i _ => K - (intOf i).toNat)
  case atStart => exact ⟨0, [], rfl, Nat.zero_le _, rfl, HJ3, Below.refl _ _⟩
  case round =>
    obtain ⟨k, pre, hi, hk, hpre, HJR, HBR⟩ := hrel
    subst hi
    by_cases hkn : k < K
    · have hkl : k < x.arcs.length := by rw [HK.out]; exact hkn
      have hi2k : (k : Int) < (K : Int) := by omega
      have hi0k : (0 : Int) ≤ (k : Int) := by omega
      have hwik : IntKind.i64.wrap (k : Int) = (k : Int) := by rw [IntKind.wrap_i64]; omega
      have hwjk : IntKind.i64.wrap ((k : Int) + 1) = (k : Int) + 1 := by rw [IntKind.wrap_i64]; omega
      have hkeep : Keep P w3 wr := fun q hq _ => HBR.out.block q (hP q hq)
      obtain ⟨gb, ob, cb, c, he1, hG1, hr1⟩ := (HRA.out.up hkeep).atN oneArc (LsF.up (fun _ _ => oneArc.up hkeep) _ HGA.out) hkl
      injection he1 with he1 _ he1'
      subst he1 he1'
      have hl1 := oneArc.len hG1
      have hs1 : (Try.prog.info? 86).map (·.size) = some c.length := by rw [hl1]; exact sz_Arc
      have HO1 := Lib.hid (oneArc.one hG1)
      have HZ := Lib.hid (Holds.new wr 86 #[.int .i64 0, .int .i64 0, .int .i64 0, .slice none 0 0, .slice none 0 0, .int .u64 0])
      have HR1 := Lib.hid hr1
      have HG1 := Lib.hid hG1
      clear hr1 hG1 hkeep
      gi_wp2_with (first | (refine wpListIn_load_mid rfl 86 _ rfl gb (ob + k * 6) rfl c _ HR1.out Try.underlying86 rfl hs1 ?_) | (refine wpListIn_storeB rfl 86 _ _ rfl wr.heap.size 0 c rfl rfl HZ.out (by rw [hl1]; exact Nat.le_of_ble_eq_true rfl) hs1 HO1.out ?_))
      refine Named.mk (fun w7 hW7 => ?_)
      have hB7 : Below wr.heap.size wr w7 := by rw [hW7]; exact Below.far (Below.refl _ _) (Nat.le_refl _) _ _ _
      have hD7 := HZ.out.stored hW7 (by rw [hl1]; exact Nat.le_of_ble_eq_true rfl)
      rw [List.take_zero, List.nil_append, List.drop_of_length_le (by rw [hl1]; exact Nat.le_of_ble_eq_true rfl), List.append_nil] at hD7
      have hG7 := oneArc.up (Keep.below hB7) HG1.out
      have HB7 := Lib.hid hB7
      obtain ⟨a, ha⟩ : ∃ a, x.arcs[k] = a := ⟨_, rfl⟩
      rw [ha] at hG7
      have HAA := Lib.hid ha
      obtain ⟨vr, vw, rfl, pr, pw⟩ := hG7
      have HY7 := Lib.hid hD7
      have HPR := Lib.hid pr
      have HPW := Lib.hid pw
      clear hW7 hB7 hD7 HZ hs1 hl1 HO1 HR1 HG1 ha pr pw
      obtain ⟨Y, hYY⟩ : ∃ Y, wr.heap.size = Y := ⟨_, rfl⟩
      rw [hYY] at HY7 ⊢
      clear hYY
      gi_wp2
      refine wpIn_wide.2 ?_
      have hrow2 := nodeOf_rows (N := N) hsm (s := s.data.toList) (k := k) (by rw [HXX.out]; exact hkl)
      simp only [HXX.out, HAA.out] at hrow2
      have HLR := Lib.hid hrow2.1
      have HLW := Lib.hid hrow2.2
      clear hrow2
      refine wp_region_rho (fun (r : Value × Value × Nat) j => ([(.pointer (some ⟨Y, 0, none⟩)), (.int .i64 a.proc), (.int .i64 (k : Int)), (.pointer (some ⟨Y, 2, none⟩)), (.int .i64 a.bad), (.pointer (some ⟨Y, 3, none⟩)), (vr), (r.1), (.pointer (some ⟨Y, 4, none⟩)), (vw), (r.2.1), (.pointer (some ⟨Y, 5, none⟩)), (.int .u64 (a.turns : Int)), (.agg (mvC k a ⟨#[]⟩ r.1 r.2.1).toArray), (.pointer (some ⟨r.2.2, 0, none⟩)), (undef)] : List Value).getD j undef) (fun r L w2 => ItW w7 a k r L w2) [(0, 23), (1, 24), (2, 25), (3, 26), (4, 27), (5, 28), (6, 29), (7, 30), (8, 31), (9, 32), (10, 33), (11, 34), (12, 35), (13, 36), (14, 8)] 50 rfl (by kernel_rfl) (by kernel_rfl) (by kernel_rfl) (.slice none 0 0, .slice none 0 0, 0) ⟨(Fr.refl (fun _ => False) w7).drew.to_below (Nat.le_refl _) (fun _ _ h => h), (fun h => by simp at h), (fun h => by simp at h), (fun h => by simp at h), (fun h => by simp at h), (fun h => by simp at h)⟩ (fun i hi => ?_) (fun r w9 hW9 => ?_)
      · have hi2 : i < 16 := hi
        clear hi
        have hi3 : i = 0 ∨ i = 1 ∨ i = 2 ∨ i = 3 ∨ i = 4 ∨ i = 5 ∨ i = 6 ∨ i = 7 ∨ i = 8 ∨ i = 9 ∨ i = 10 ∨ i = 11 ∨ i = 12 ∨ i = 13 ∨ i = 14 ∨ i = 15 := by omega
        clear hi2
        rcases hi3 with rfl | rfl | rfl | rfl | rfl | rfl | rfl | rfl | rfl | rfl | rfl | rfl | rfl | rfl | rfl | rfl
        · exact RhoOp.pure rfl (fun r L b w2 hl hR hW => by
            have h7 : b.eval (.tmp 7) = .pointer (some ⟨Y, 0, none⟩) := (hR.old (by decide) (by kernel_rfl)).trans rfl
            simp only [Act.eval, Array.getD_eq_getD_getElem?] at h7
            show (execOp b.eval _).run _ _ = .ok (.value (.pointer (some ⟨Y, 0, none⟩))) _
            unfold execOp
            simp [go_sem, h7]) (fun r L w2 hs h => h.pure 0 (by decide) (by decide) (by decide) (by decide) (by decide))
        · exact RhoOp.pure rfl (fun r L b w2 hl hR hW => by
            have e : w2.cell? ⟨Y, 0, none⟩ = some (.int .i64 a.proc) := ((HY7.out.belowAll hW.below).cell 0).trans rfl
            have h23 : b.eval (.tmp 23) = .pointer (some ⟨Y, 0, none⟩) := hR.of (j := 0) (by decide) (by kernel_rfl)
            simp only [Act.eval, Array.getD_eq_getD_getElem?] at h23
            show (execOp b.eval _).run _ _ = .ok (.value (.int .i64 a.proc)) _
            unfold execOp
            simp [go_sem, h23, e]) (fun r L w2 hs h => h.pure 1 (by decide) (by decide) (by decide) (by decide) (by decide))
        · exact RhoOp.pure rfl (fun r L b w2 hl hR hW => by
            have h6 : b.eval (.tmp 6) = .int .i64 (k : Int) := (hR.old (by decide) (by kernel_rfl)).trans rfl
            simp only [Act.eval, Array.getD_eq_getD_getElem?] at h6
            show (execOp b.eval _).run _ _ = .ok (.value (.int .i64 (k : Int))) _
            unfold execOp
            simp [go_sem, h6]) (fun r L w2 hs h => h.pure 2 (by decide) (by decide) (by decide) (by decide) (by decide))
        · exact RhoOp.pure rfl (fun r L b w2 hl hR hW => by
            have h7 : b.eval (.tmp 7) = .pointer (some ⟨Y, 0, none⟩) := (hR.old (by decide) (by kernel_rfl)).trans rfl
            simp only [Act.eval, Array.getD_eq_getD_getElem?] at h7
            show (execOp b.eval _).run _ _ = .ok (.value (.pointer (some ⟨Y, 2, none⟩))) _
            unfold execOp
            simp [go_sem, h7]) (fun r L w2 hs h => h.pure 3 (by decide) (by decide) (by decide) (by decide) (by decide))
        · exact RhoOp.pure rfl (fun r L b w2 hl hR hW => by
            have e : w2.cell? ⟨Y, 2, none⟩ = some (.int .i64 a.bad) := ((HY7.out.belowAll hW.below).cell 2).trans rfl
            have h26 : b.eval (.tmp 26) = .pointer (some ⟨Y, 2, none⟩) := hR.of (j := 3) (by decide) (by kernel_rfl)
            simp only [Act.eval, Array.getD_eq_getD_getElem?] at h26
            show (execOp b.eval _).run _ _ = .ok (.value (.int .i64 a.bad)) _
            unfold execOp
            simp [go_sem, h26, e]) (fun r L w2 hs h => h.pure 4 (by decide) (by decide) (by decide) (by decide) (by decide))
        · exact RhoOp.pure rfl (fun r L b w2 hl hR hW => by
            have h7 : b.eval (.tmp 7) = .pointer (some ⟨Y, 0, none⟩) := (hR.old (by decide) (by kernel_rfl)).trans rfl
            simp only [Act.eval, Array.getD_eq_getD_getElem?] at h7
            show (execOp b.eval _).run _ _ = .ok (.value (.pointer (some ⟨Y, 3, none⟩))) _
            unfold execOp
            simp [go_sem, h7]) (fun r L w2 hs h => h.pure 5 (by decide) (by decide) (by decide) (by decide) (by decide))
        · exact RhoOp.pure rfl (fun r L b w2 hl hR hW => by
            have e : w2.cell? ⟨Y, 3, none⟩ = some (vr) := ((HY7.out.belowAll hW.below).cell 3).trans rfl
            have h28 : b.eval (.tmp 28) = .pointer (some ⟨Y, 3, none⟩) := hR.of (j := 5) (by decide) (by kernel_rfl)
            simp only [Act.eval, Array.getD_eq_getD_getElem?] at h28
            show (execOp b.eval _).run _ _ = .ok (.value (vr)) _
            unfold execOp
            simp [go_sem, h28, e]) (fun r L w2 hs h => h.pure 6 (by decide) (by decide) (by decide) (by decide) (by decide))
        · exact RhoOp.call (f := 24) rfl (fun r L b w2 hs hl hR hW => by
            have h29 : b.eval (.tmp 29) = vr := hR.of (j := 6) (by decide) (by kernel_rfl)
            simp only [Act.eval, Array.getD_eq_getD_getElem?] at h29
            refine ⟨#[vr], ?_, ?_⟩
            · unfold execOp
              simp [go_sem, h29]
            · have h15 : L.getD 15 false = false := by
                cases hq : L.getD 15 false with
                | false => rfl
                | true => have := (hW.o15 hq).1; rw [hl] at this; cases this
              refine (cloneIntsFn (HPR.out.up (Keep.below hW.below)) (ints_one _) HLR.out).mono fun e w4 h => ?_
              obtain ⟨hb, v, he, hv1, hv2⟩ := h
              refine ⟨(v, r.2), fun j hj => ?_, he, ⟨hW.below.trans (hb.mono hW.below.size), ?_, ?_, ?_, ?_, ?_⟩⟩
              · match j, hj with
                | 7, hj => rw [hl] at hj; cases hj
                | 0, _ => rfl
                | 1, _ => rfl
                | 2, _ => rfl
                | 3, _ => rfl
                | 4, _ => rfl
                | 5, _ => rfl
                | 6, _ => rfl
                | 8, _ => rfl
                | 9, _ => rfl
                | 10, _ => rfl
                | 11, _ => rfl
                | 12, _ => rfl
                | 13, hj => have := (hW.o13 hj).1; rw [hl] at this; cases this
                | 14, _ => rfl
                | 15, _ => rfl
                | j + 16, _ => rfl
              · exact fun _ => RowX.clone hv1 hv2 hW.below.size
              · intro q
                rw [gd_ne (by decide)] at q
                exact (hW.writes q).below hb
              · intro q
                rw [gd_ne (by decide)] at q
                obtain ⟨q1, q2⟩ := hW.box q
                refine ⟨q1, ?_⟩
                rw [gd_ne (by decide), h15]
                rw [h15] at q2
                exact q2.belowAll hb
              · intro q
                rw [gd_ne (by decide)] at q
                obtain ⟨q1, q2⟩ := hW.o13 q
                exact ⟨by first | (rw [gd_ne (by decide)]; exact q1) | exact gd_eq (by rw [hs]; decide), by first | (rw [gd_ne (by decide)]; exact q2) | exact gd_eq (by rw [hs]; decide)⟩
              · intro q
                rw [gd_ne (by decide), h15] at q; cases q)
        · exact RhoOp.pure rfl (fun r L b w2 hl hR hW => by
            have h7 : b.eval (.tmp 7) = .pointer (some ⟨Y, 0, none⟩) := (hR.old (by decide) (by kernel_rfl)).trans rfl
            simp only [Act.eval, Array.getD_eq_getD_getElem?] at h7
            show (execOp b.eval _).run _ _ = .ok (.value (.pointer (some ⟨Y, 4, none⟩))) _
            unfold execOp
            simp [go_sem, h7]) (fun r L w2 hs h => h.pure 8 (by decide) (by decide) (by decide) (by decide) (by decide))
        · exact RhoOp.pure rfl (fun r L b w2 hl hR hW => by
            have e : w2.cell? ⟨Y, 4, none⟩ = some (vw) := ((HY7.out.belowAll hW.below).cell 4).trans rfl
            have h31 : b.eval (.tmp 31) = .pointer (some ⟨Y, 4, none⟩) := hR.of (j := 8) (by decide) (by kernel_rfl)
            simp only [Act.eval, Array.getD_eq_getD_getElem?] at h31
            show (execOp b.eval _).run _ _ = .ok (.value (vw)) _
            unfold execOp
            simp [go_sem, h31, e]) (fun r L w2 hs h => h.pure 9 (by decide) (by decide) (by decide) (by decide) (by decide))
        · exact RhoOp.call (f := 24) rfl (fun r L b w2 hs hl hR hW => by
            have h32 : b.eval (.tmp 32) = vw := hR.of (j := 9) (by decide) (by kernel_rfl)
            simp only [Act.eval, Array.getD_eq_getD_getElem?] at h32
            refine ⟨#[vw], ?_, ?_⟩
            · unfold execOp
              simp [go_sem, h32]
            · have h15 : L.getD 15 false = false := by
                cases hq : L.getD 15 false with
                | false => rfl
                | true => have := (hW.o15 hq).2.1; rw [hl] at this; cases this
              refine (cloneIntsFn (HPW.out.up (Keep.below hW.below)) (ints_one _) HLW.out).mono fun e w4 h => ?_
              obtain ⟨hb, v, he, hv1, hv2⟩ := h
              refine ⟨(r.1, v, r.2.2), fun j hj => ?_, he, ⟨hW.below.trans (hb.mono hW.below.size), ?_, ?_, ?_, ?_, ?_⟩⟩
              · match j, hj with
                | 10, hj => rw [hl] at hj; cases hj
                | 0, _ => rfl
                | 1, _ => rfl
                | 2, _ => rfl
                | 3, _ => rfl
                | 4, _ => rfl
                | 5, _ => rfl
                | 6, _ => rfl
                | 7, _ => rfl
                | 8, _ => rfl
                | 9, _ => rfl
                | 11, _ => rfl
                | 12, _ => rfl
                | 13, hj => have := (hW.o13 hj).2; rw [hl] at this; cases this
                | 14, _ => rfl
                | 15, _ => rfl
                | j + 16, _ => rfl
              · intro q
                rw [gd_ne (by decide)] at q
                exact (hW.reads q).below hb
              · exact fun _ => RowX.clone hv1 hv2 hW.below.size
              · intro q
                rw [gd_ne (by decide)] at q
                obtain ⟨q1, q2⟩ := hW.box q
                refine ⟨q1, ?_⟩
                rw [gd_ne (by decide), h15]
                rw [h15] at q2
                exact q2.belowAll hb
              · intro q
                rw [gd_ne (by decide)] at q
                obtain ⟨q1, q2⟩ := hW.o13 q
                exact ⟨by first | (rw [gd_ne (by decide)]; exact q1) | exact gd_eq (by rw [hs]; decide), by first | (rw [gd_ne (by decide)]; exact q2) | exact gd_eq (by rw [hs]; decide)⟩
              · intro q
                rw [gd_ne (by decide), h15] at q; cases q)
        · exact RhoOp.pure rfl (fun r L b w2 hl hR hW => by
            have h7 : b.eval (.tmp 7) = .pointer (some ⟨Y, 0, none⟩) := (hR.old (by decide) (by kernel_rfl)).trans rfl
            simp only [Act.eval, Array.getD_eq_getD_getElem?] at h7
            show (execOp b.eval _).run _ _ = .ok (.value (.pointer (some ⟨Y, 5, none⟩))) _
            unfold execOp
            simp [go_sem, h7]) (fun r L w2 hs h => h.pure 11 (by decide) (by decide) (by decide) (by decide) (by decide))
        · exact RhoOp.pure rfl (fun r L b w2 hl hR hW => by
            have e : w2.cell? ⟨Y, 5, none⟩ = some (.int .u64 (a.turns : Int)) := ((HY7.out.belowAll hW.below).cell 5).trans rfl
            have h34 : b.eval (.tmp 34) = .pointer (some ⟨Y, 5, none⟩) := hR.of (j := 11) (by decide) (by kernel_rfl)
            simp only [Act.eval, Array.getD_eq_getD_getElem?] at h34
            show (execOp b.eval _).run _ _ = .ok (.value (.int .u64 (a.turns : Int))) _
            unfold execOp
            simp [go_sem, h34, e]) (fun r L w2 hs h => h.pure 12 (by decide) (by decide) (by decide) (by decide) (by decide))
        · exact RhoOp.make rfl (fun r L b w2 hs hl hR hW => by
            have h7 := hR.on (j := 7) (by kernel_rfl)
            have h10 := hR.on (j := 10) (by kernel_rfl)
            obtain ⟨a1, c1, e1, _⟩ := (hW.reads h7).2.form
            obtain ⟨a2, c2, e2, _⟩ := (hW.writes h10).2.form
            have h24 : b.eval (.tmp 24) = .int .i64 a.proc := hR.of (j := 1) (by decide) (by kernel_rfl)
            have h25 : b.eval (.tmp 25) = .int .i64 (k : Int) := hR.of (j := 2) (by decide) (by kernel_rfl)
            have h27 : b.eval (.tmp 27) = .int .i64 a.bad := hR.of (j := 4) (by decide) (by kernel_rfl)
            have h30 : b.eval (.tmp 30) = r.1 := hR.of (j := 7) (by decide) (by kernel_rfl)
            have h33 : b.eval (.tmp 33) = r.2.1 := hR.of (j := 10) (by decide) (by kernel_rfl)
            have h35 : b.eval (.tmp 35) = .int .u64 (a.turns : Int) := hR.of (j := 12) (by decide) (by kernel_rfl)
            simp only [Act.eval, Array.getD_eq_getD_getElem?] at h24 h25 h27 h30 h33 h35
            refine ⟨r, w2, ?_, ?_, ?_⟩
            · exact fun _ _ => rfl
            · show (execOp b.eval _).run _ _ = .ok (.value (.agg (mvC k a ⟨#[]⟩ (r).1 (r).2.1).toArray)) _
              unfold execOp
              simp [go_sem, h24, h25, h27, h30, h33, h35, e1, e2, mvC]
            · refine ⟨hW.below, ?_, ?_, ?_, ?_, ?_⟩
              · rw [gd_ne (by decide)]; exact hW.reads
              · rw [gd_ne (by decide)]; exact hW.writes
              · rw [gd_ne (by decide), gd_ne (by decide)]; exact hW.box
              · intro _
                rw [gd_ne (by decide), gd_ne (by decide)]
                exact ⟨h7, h10⟩
              · rw [gd_ne (by decide), gd_ne (by decide), gd_ne (by decide), gd_ne (by decide)]; exact hW.o15)
        · exact RhoOp.make rfl (fun r L b w2 hs hl hR hW => by
            refine ⟨(r.1, r.2.1, w2.heap.size), w2.alloc (.cells #[.int .i64 0, .int .i64 0, .int .i64 0, .int .i64 0, .string ⟨#[]⟩, .int .i64 0, .slice none 0 0, .slice none 0 0, .int .u64 0] 75), ?_, ?_, ?_⟩
            · exact fun j hj => match j, hj with | 14, hj => (by rw [hl] at hj; cases hj) | 0, _ => rfl | 1, _ => rfl | 2, _ => rfl | 3, _ => rfl | 4, _ => rfl | 5, _ => rfl | 6, _ => rfl | 7, _ => rfl | 8, _ => rfl | 9, _ => rfl | 10, _ => rfl | 11, _ => rfl | 12, _ => rfl | 13, _ => rfl | 15, _ => rfl | j + 16, _ => rfl
            · show (execOp b.eval _).run _ _ = .ok (.value (.pointer (some ⟨((r.1, r.2.1, w2.heap.size)).2.2, 0, none⟩))) _
              unfold execOp
              simp [go_sem, ]
            · have hb : Below w2.heap.size w2 (w2.alloc (.cells #[.int .i64 0, .int .i64 0, .int .i64 0, .int .i64 0, .string ⟨#[]⟩, .int .i64 0, .slice none 0 0, .slice none 0 0, .int .u64 0] 75)) := (Below.refl _ _).alloc (Nat.le_refl _) _
              have h15 : L.getD 15 false = false := by
                cases hq : L.getD 15 false with
                | false => rfl
                | true => have := (hW.o15 hq).2.2; rw [hl] at this; cases this
              refine ⟨hW.below.trans (hb.mono hW.below.size), ?_, ?_, ?_, ?_, ?_⟩
              · intro q
                rw [gd_ne (by decide)] at q
                exact (hW.reads q).below hb
              · intro q
                rw [gd_ne (by decide)] at q
                exact (hW.writes q).below hb
              · intro _
                refine ⟨hW.below.size, ?_⟩
                rw [gd_ne (by decide), h15]
                exact Holds.new w2 75 #[.int .i64 0, .int .i64 0, .int .i64 0, .int .i64 0, .string ⟨#[]⟩, .int .i64 0, .slice none 0 0, .slice none 0 0, .int .u64 0]
              · rw [gd_ne (by decide), gd_ne (by decide), gd_ne (by decide)]; exact hW.o13
              · intro q
                rw [gd_ne (by decide), h15] at q; cases q)
        · exact RhoOp.store rfl rfl (fun r L b w2 hs hl hR hW => by
            have h7 := hR.on (j := 7) (by kernel_rfl)
            have h10 := hR.on (j := 10) (by kernel_rfl)
            have h14 := hR.on (j := 14) (by kernel_rfl)
            obtain ⟨hge, hbx⟩ := hW.box h14
            rw [hl] at hbx
            have hone : (mvC k a ⟨#[]⟩ r.1 r.2.1).all (·.oneCell') = true := by
              have q1 := (hW.reads h7).2.cell1
              have q2 := (hW.writes h10).2.cell1
              simp [mvC, q1, q2]
              simp [Value.oneCell']
            have hst := storeN (P := Try.prog) (ty := 75) (xs := mvC k a ⟨#[]⟩ r.1 r.2.1) (i := 0) hbx (Nat.le_of_ble_eq_true rfl) sz_Move hone
            have h8 : b.eval (.tmp 8) = .pointer (some ⟨r.2.2, 0, none⟩) := hR.of (j := 14) (by decide) (by kernel_rfl)
            have h36 : b.eval (.tmp 36) = .agg (mvC k a ⟨#[]⟩ r.1 r.2.1).toArray := hR.of (j := 13) (by decide) (by kernel_rfl)
            simp only [Act.eval, Array.getD_eq_getD_getElem?] at h8 h36
            refine ⟨r, setR w2 r.2.2 0 (mvC k a ⟨#[]⟩ r.1 r.2.1), fun _ _ => rfl, ?_, ?_⟩
            · show (execOp b.eval _).run _ _ = .ok .skip _
              unfold execOp
              simp [Act.eval, h8, h36, Sem.run_bind, hst]
            · have hfr := Fr.setRX r.2.2 (mvC k a ⟨#[]⟩ r.1 r.2.1) 0 w2
              have hbl : Below w7.heap.size w7 (setR w2 r.2.2 0 (mvC k a ⟨#[]⟩ r.1 r.2.1)) := hW.below.trans (hfr.to_below hW.below.size fun q hq e => by omega)
              refine ⟨hbl, ?_, ?_, ?_, ?_, ?_⟩
              · intro _
                exact (hW.reads h7).store hbx hfr
              · intro _
                exact (hW.writes h10).store hbx hfr
              · intro _
                refine ⟨hge, ?_⟩
                rw [gd_eq (by rw [hs]; decide), if_pos rfl]
                have := hbx.stored (W' := setR w2 r.2.2 0 (mvC k a ⟨#[]⟩ r.1 r.2.1)) rfl (Nat.le_of_ble_eq_true rfl)
                exact this
              · rw [gd_ne (by decide), gd_ne (by decide), gd_ne (by decide)]; exact hW.o13
              · intro _
                refine ⟨?_, ?_, ?_⟩ <;> rw [gd_ne (by decide)] <;> first | exact h7 | exact h10 | exact h14)
      · refine puts_as (ps := [(0, 23, .pointer (some ⟨Y, 0, none⟩)), (1, 24, .int .i64 a.proc), (2, 25, .int .i64 (k : Int)), (3, 26, .pointer (some ⟨Y, 2, none⟩)), (4, 27, .int .i64 a.bad), (5, 28, .pointer (some ⟨Y, 3, none⟩)), (6, 29, vr), (7, 30, r.1), (8, 31, .pointer (some ⟨Y, 4, none⟩)), (9, 32, vw), (10, 33, r.2.1), (11, 34, .pointer (some ⟨Y, 5, none⟩)), (12, 35, .int .u64 (a.turns : Int)), (13, 36, .agg (mvC k a ⟨#[]⟩ r.1 r.2.1).toArray), (14, 8, .pointer (some ⟨r.2.2, 0, none⟩))]) rfl ?_
        simp only [puts, Act.put, List.setIfInBounds_toArray, List.set_cons_zero, List.set_cons_succ]
        obtain ⟨vr2, vw2, g8⟩ := r
        have hbl := hW9.below
        have hre := hW9.reads rfl
        have hwr := hW9.writes rfl
        obtain ⟨hge, hm⟩ := hW9.box rfl
        have hm : Holds w9 g8 75 (mvC k a ⟨#[]⟩ vr2 vw2) := hm
        have HG8 : Hid (wr.heap.size ≤ g8) := Nat.le_trans HB7.out.size hge
        clear hW9
        have hto2 := nodeOf_to (N := N) hto (s := s.data.toList) (k := k) (by rw [HXX.out]; exact hkl)
        simp only [HXX.out, HAA.out] at hto2
        obtain ⟨proc, tg, bad, lr, lw, turns⟩ := a
        dsimp only at hre hwr hm hto2 HPR HPW HY7 HLR HLW
        have HRE := Lib.hid hre
        have HWR := Lib.hid hwr
        have HM := Lib.hid hm
        have HB9 : Hid (Below wr.heap.size wr w9) := HB7.out.trans (hbl.mono HB7.out.size)
        have HTO := Lib.hid hto2
        have HNR : Hid (n₀ ≤ wr.heap.size) := Nat.le_trans hn₀ (Nat.le_trans hW.size (Nat.le_trans HB3.out.size HBR.out.size))
        have HSZ7 : Hid (wr.heap.size ≤ w7.heap.size) := HB7.out.size
        have f1 := (HY7.out.belowAll hbl).cell 1
        have f2 := (HY7.out.belowAll hbl).cell 2
        simp only [List.getElem?_cons_zero, List.getElem?_cons_succ] at f1 f2
        clear hre hwr hm hbl hto2 hge HY7 HPR HPW HLR HLW HB7
        by_cases hbad : bad = 0
        · subst hbad
          obtain ⟨m, hm⟩ : ∃ m : Nat, tg = (m : Int) := ⟨tg.toNat, by have := HTO.out; omega⟩
          subst hm
          have hrow : RowL (fun _ => True) (w9.alloc (.cells #[.int .i64 (m : Int)] 3)) 1 (.slice (some ⟨w9.heap.size, 0, none⟩) 1 1) [m].length ([m].map natV) := RowL.of_holds (n := 1) (Holds.new w9 3 #[.int .i64 (m : Int)]) trivial (by omega) rfl
          have HCB := Lib.hid (bytesFn hrow (by have := HTO.out; simp; omega) (by simp))
          have HBA : Hid (Below w9.heap.size w9 (w9.alloc (.cells #[.int .i64 (m : Int)] 3))) := (Below.refl _ _).alloc (Nat.le_refl _) _
          clear hrow
          gi_wp2_with fail
          refine ⟨trivial, no_depth, ?_⟩
          refine (callsIn_wide.2 HCB.out).mono ?_
          rintro e w10 ⟨rfl, hb10⟩
          have hb11 := HBA.out.trans (hb10.mono HBA.out.size)
          have hM10 := HM.out.belowAll hb11
          have HM10 := Lib.hid hM10
          have HB11 := Lib.hid hb11
          clear HCB hb10 hb11 hM10 f1 f2
          gi_wp2_with (refine wpListIn_store1 rfl 9 _ _ rfl g8 4 (.string ⟨(encs [m]).toArray⟩) rfl rfl HM10.out (Nat.le_of_ble_eq_true rfl) sz_Str rfl rfl ?_)
          refine Named.mk (fun wz hWz => ?_)
          obtain ⟨S, hS⟩ : ∃ S : ByteArray, ⟨(encs [m]).toArray⟩ = S := ⟨_, rfl⟩
          have hST : S = toS ⟨proc, (m : Int), 0, lr, lw, turns⟩ := by rw [← hS]; simp [toS, encs]
          have hmz := HM10.out.stored hWz (Nat.le_of_ble_eq_true rfl)
          rw [hS] at hmz hWz
          have HMZ : Hid (Holds wz g8 75 (mvC k ⟨proc, (m : Int), 0, lr, lw, turns⟩ S vr2 vw2)) := hmz
          have hfr : Fr (fun q => q = g8) w10 wz := by rw [hWz]; exact Fr.setRX g8 _ 4 w10
          have HBZ : Hid (Below wr.heap.size wr wz) := (HB9.out.trans (HB11.out.mono HB9.out.size)).trans (hfr.to_below (Nat.le_trans HB9.out.size HB11.out.size) fun q hq e => by have := HG8.out; omega)
          have HTE : Hid (Tells x.arcs pre (.agg (mvC k ⟨proc, (m : Int), 0, lr, lw, turns⟩ S vr2 vw2).toArray) wr wz) := by
            subst hpre
            refine ⟨hkl, vr2, vw2, by rw [HAA.out, hST], ?_, ?_⟩ <;> rw [HAA.out]
            · exact ((HRE.out.below HB11.out).store HM10.out hfr).wide HSZ7.out
            · exact ((HWR.out.below HB11.out).store HM10.out hfr).wide HSZ7.out
          clear hmz hWz hfr hS hST HM10 HB11 HBA
          obtain ⟨fn, tmps, assign, body, hy, hR⟩ := HYY.out pre (.agg (mvC k ⟨proc, (m : Int), 0, lr, lw, turns⟩ S vr2 vw2).toArray) wr wz HJR.out (Tol.of_below HBZ.out) (abide_below HJJ.out HBZ.out HJR.out) HTE.out (by rw [hpre]; exact hkn)
          have HRG := Lib.hid (HMZ.out.range (i := 0) (n := 9) (xs := mvC k ⟨proc, (m : Int), 0, lr, lw, turns⟩ S vr2 vw2) rfl)
          have HR := Lib.hid hR
          clear hR
          gi_wp2_with (refine wpListIn_load_mid rfl 75 _ rfl g8 0 rfl (mvC k ⟨proc, (m : Int), 0, lr, lw, turns⟩ S vr2 vw2) _ HRG.out Try.underlying75 rfl sz_Move ?_)
          refine ⟨no_depth, ?_⟩
          refine HR.out.mono ?_
          rintro e w12 ⟨hkf, (⟨rfl, hj12, hk12⟩ | ⟨rfl, hjx⟩)⟩
          all_goals clear hkf
          · have HJ12 : Hid (J (pre ++ [.agg (mvC k ⟨proc, (m : Int), 0, lr, lw, turns⟩ S vr2 vw2).toArray]) w12) := hj12
            have HB12 : Hid (Below n₀ w3 w12) := (HBR.out.trans (HBZ.out.mono HNR.out)).trans hk12
            clear hj12 hk12 hy
            gi_wp2
            go_roundw
            case rel => exact ⟨k + 1, _, by simp, by omega, by simp; exact hpre, HJ12, HB12⟩
            case measure => simp [intOf]; omega
          · have HJX : Hid (Jx (pre ++ [.agg (mvC k ⟨proc, (m : Int), 0, lr, lw, turns⟩ S vr2 vw2).toArray]) w12) := hjx
            clear hjx hy
            gi_wp2
            refine bodyPost_ret (results_none rfl _ _ _) rfl ?_
            exact ⟨⟨_, rfl⟩, .inr ⟨_, trivial, HJX.out⟩⟩
        · have d0 : (bad == 0) = false := by simpa using hbad
          obtain ⟨S, hS⟩ : ∃ S : ByteArray, (⟨#[]⟩ : ByteArray) = S := ⟨_, rfl⟩
          have hST : S = toS ⟨proc, tg, bad, lr, lw, turns⟩ := by rw [← hS]; simp [toS, hbad]
          rw [hS] at HM
          have HTE : Hid (Tells x.arcs pre (.agg (mvC k ⟨proc, tg, bad, lr, lw, turns⟩ S vr2 vw2).toArray) wr w9) := by
            subst hpre
            refine ⟨hkl, vr2, vw2, by rw [HAA.out, hST], ?_, ?_⟩ <;> rw [HAA.out]
            · exact HRE.out.wide HSZ7.out
            · exact HWR.out.wide HSZ7.out
          clear hS hST
          obtain ⟨fn, tmps, assign, body, hy, hR⟩ := HYY.out pre (.agg (mvC k ⟨proc, tg, bad, lr, lw, turns⟩ S vr2 vw2).toArray) wr w9 HJR.out (Tol.of_below HB9.out) (abide_below HJJ.out HB9.out HJR.out) HTE.out (by rw [hpre]; exact hkn)
          have HRG := Lib.hid (HM.out.range (i := 0) (n := 9) (xs := mvC k ⟨proc, tg, bad, lr, lw, turns⟩ S vr2 vw2) rfl)
          have HR := Lib.hid hR
          clear hR
          gi_wp2_with (refine wpListIn_load_mid rfl 75 _ rfl g8 0 rfl (mvC k ⟨proc, tg, bad, lr, lw, turns⟩ S vr2 vw2) _ HRG.out Try.underlying75 rfl sz_Move ?_)
          refine ⟨no_depth, ?_⟩
          refine HR.out.mono ?_
          rintro e w12 ⟨hkf, (⟨rfl, hj12, hk12⟩ | ⟨rfl, hjx⟩)⟩
          all_goals clear hkf
          · have HJ12 : Hid (J (pre ++ [.agg (mvC k ⟨proc, tg, bad, lr, lw, turns⟩ S vr2 vw2).toArray]) w12) := hj12
            have HB12 : Hid (Below n₀ w3 w12) := (HBR.out.trans (HB9.out.mono HNR.out)).trans hk12
            clear hj12 hk12 hy
            gi_wp2
            go_roundw
            case rel => exact ⟨k + 1, _, by simp, by omega, by simp; exact hpre, HJ12, HB12⟩
            case measure => simp [intOf]; omega
          · have HJX : Hid (Jx (pre ++ [.agg (mvC k ⟨proc, tg, bad, lr, lw, turns⟩ S vr2 vw2).toArray]) w12) := hjx
            clear hjx hy
            gi_wp2
            refine bodyPost_ret (results_none rfl _ _ _) rfl ?_
            exact ⟨⟨_, rfl⟩, .inr ⟨_, trivial, HJX.out⟩⟩
    · obtain rfl : k = K := by omega
      gi_wp2
      go_end0
      exact ⟨⟨_, rfl⟩, .inl ⟨pre, hpre.trans HK.out.symm, HJR.out⟩⟩
end Go.Proofs.Ytpednhcfkjjcpaa
