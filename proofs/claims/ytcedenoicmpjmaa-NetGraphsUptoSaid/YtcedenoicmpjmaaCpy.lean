/- copy of a row of things of any size into a block of the call's own; the statements' list, write and pick. -/
import Derived.Test.YtcedenoicmpjmaaTur
import Derived.Laws.CopyRow
namespace Go.Proofs.Ytcedenoicmpjmaa
open Go.RowKit
set_option linter.unusedVariables false
set_option linter.unusedSimpArgs false

/-- What lies in the block behind a copy (a name of its own, so that the walk leaves it standing). -/
structure CopyH (w : World) (g : Nat) (t : TypeId) (flat cur : List Value) : Prop where
  out : Holds w g t (flat ++ cur.drop flat.length)
section
variable {P : Program} {w : World}
theorem run_copyL {dT sT ty elem : TypeId} {sz n g dLen dCap : Nat} {R : Nat → Prop} {v : Value} {flat cur : List Value} {t : TypeId} (hu : P.underlying dT = some (.slice elem)) (hsz : (P.info? elem).map (·.size) = some sz) (hr : RowL R w sz v n flat) (hn : n ≤ dLen) (hg : Holds w g t cur) (hfit : flat.length ≤ cur.length) (h1 : ∀ u ∈ flat, u.oneCell' = true) :
    ∃ w', (Builtin.copy_ #[dT, sT] ty #[.slice (some ⟨g, 0, none⟩) dLen dCap, v]).run P w = .ok (goInt n) w' ∧ Holds w' g t (flat ++ cur.drop flat.length) ∧ Fr (fun q => q = g) w w' := by
  obtain ⟨a, cap, rfl, h2, h3, h4, h5, h6⟩ := hr
  cases hq : P.info? elem with
  | none => simp [hq] at hsz
  | some i =>
    have hi : i.size = sz := by simpa [hq] using hsz
    have hm : Nat.min n dLen = n := Nat.min_eq_left hn
    have hst := run_storeCells_at P g 0 t flat 0 cur.toArray w hg (by simpa using hfit) h1
    simp only [Nat.zero_add, List.take_zero, List.nil_append] at hst
    have hfr : Fr (fun q => q = g) w (w.setRow g (flat ++ cur.toArray.toList.drop flat.length).toArray) := ⟨rfl, rfl, rfl, by simp [World.setRow], fun k _ hk => setRow_other w g k _ hk⟩
    have hhd : Holds (w.setRow g (flat ++ cur.toArray.toList.drop flat.length).toArray) g t (flat ++ cur.drop flat.length) := by
      have := setRow_heap w g cur.toArray (flat ++ cur.toArray.toList.drop flat.length).toArray t (0, 0) hg
      simpa [Holds] using this
    refine ⟨_, ?_, hhd, hfr⟩
    by_cases hn0 : n = 0
    · subst hn0
      obtain rfl : flat = [] := List.eq_nil_of_length_eq_zero (by rw [h4, Nat.zero_mul])
      have hl : ∀ (x : Addr), (loadCells x 0).run P w = .ok #[] w := fun x => by simpa using run_loadCells_list (P := P) w x [] (by simp)
      cases a <;> simp [Builtin.copy_, run_underlying hu, Builtin.lenOf, Builtin.firstCells, sizeOf, typeInfo, hq, hl, hst]
    · obtain ⟨g', o', cs, t', rfl, _, k3, k4⟩ := h6 (by omega)
      have hl := run_loadCells_list (P := P) w ⟨g', o', none⟩ flat (fun j u hj => by
        have hjl := (List.getElem?_eq_some_iff.1 hj).1
        rw [Addr.add_lit, k3.cell, k4 j (by omega)]
        exact hj)
      rw [h4] at hl
      simp [Builtin.copy_, run_underlying hu, Builtin.lenOf, Builtin.firstCells, sizeOf, typeInfo, hq, hi, hm, hl, hst]
theorem wpList_copyL {ops : Array Oper} {rest : List Oper} {o : Oper} {a : Act} {Q : Exit → Act → World → Prop} (hgd : o.guard = none) (d s : Operand) (dT sT : TypeId) (ho : o.op = .call { callee := .builtin .copy, args := #[d, s], argTypes := #[dT, sT] })
    (elem : TypeId) (sz : Nat) (hu : P.underlying dT = some (.slice elem)) (hsz : (P.info? elem).map (·.size) = some sz) (g dLen dCap n : Nat) (hd : a.eval d = .slice (some ⟨g, 0, none⟩) dLen dCap) (v : Value) (hs : a.eval s = v) {R : Nat → Prop} (flat : List Value) (hr : RowL R w sz v n flat) (hn : n ≤ dLen) {t : TypeId} (cur : List Value) (hg : Holds w g t cur) (hfit : flat.length ≤ cur.length) (h1 : ∀ u ∈ flat, u.oneCell' = true)
    (h : ∀ w', CopyH w' g t flat cur → Fr (fun q => q = g) w w' → wpList P ops Q rest (a.put o.dst (goInt n)) w') : wpList P ops Q (o :: rest) a w := by
  refine wpList_plain hgd fun K hK => ?_
  obtain ⟨w', hrun, r1, r2⟩ := run_copyL (dT := dT) (sT := sT) (ty := o.type) (dCap := dCap) hu hsz hr hn hg hfit h1
  unfold Oper.wp
  simp [execOp, ho, resolve, invoke, builtin, hd, hs, hrun, Result.andThen]
  exact hK _ _ (h w' ⟨r1⟩ r2)
end
section
variable {P : Program} {ops : Array Oper} {Q : Exit → Act → World → Prop} {a : Act} {w : World} {rest : List Oper} {o : Oper}
theorem halt_call2 (c : Call) (ho : o.op = .call c) (h : Stop (wpList P ops Q (o :: rest) a w)) : wpList P ops Q (o :: rest) a w := h.out
theorem halt_store (ty : TypeId) (x y : Operand) (ho : o.op = .store ty x y) (h : Stop (wpList P ops Q (o :: rest) a w)) : wpList P ops Q (o :: rest) a w := h.out
end
theorem owns_all {w : World} {base sz n : Nat} {t : TypeId} {g : Nat} {flat : List Value} (h : w.ownsRow base t sz (.slice (some ⟨g, 0, none⟩) n n) n flat) : Holds w g t flat ∧ base ≤ g := by
  rcases h.2 with ⟨h0, _⟩ | ⟨g', cap, cur, hv, hb, hg, _, _, hcs, ht⟩
  · cases h0
  · injection hv with hv _ hc
    injection hv with hv
    injection hv with hv _
    subst hv
    subst hc
    rw [← hcs, ← Array.length_toList, List.take_length] at ht
    exact ⟨by rw [← ht]; unfold Holds; simpa using hg, hb⟩
structure MadeH (w : World) (g : Nat) (t : TypeId) (n : Nat) : Prop where
  out : ∃ cur, Holds w g t cur ∧ cur.length = n
theorem wpList_makeL {P : Program} {w : World} {ops : Array Oper} {rest : List Oper} {o : Oper} {a : Act} {Q : Exit → Act → World → Prop} (hgd : o.guard = none) (l c : Operand) (t : TypeId) (ho : o.op = .makeSlice t l c) (e : TypeId) (sz bytes : Nat) (ht : P.underlying t = some (.slice e))
    (hinfo : (P.info? e).map (fun i => (i.zero.map fun z => z.cells.size, i.size, i.bytes)) = some (some sz, sz, bytes)) (kl kc : IntKind) (L C : Int) (n : Nat) (hl : a.eval l = .int kl L) (hc : a.eval c = .int kc C) (hL : L = (n : Int)) (hC : C = (n : Int)) (hb : bytes * n ≤ 281474976710656) (hn : n ≤ maxLen)
    (h : ∀ w', MadeH w' w.heap.size e (n * sz) → Below w.heap.size w w' → wpList P ops Q rest (a.put o.dst (.slice (some ⟨w.heap.size, 0, none⟩) n n)) w') : wpList P ops Q (o :: rest) a w := by
  obtain ⟨i, z, h1, h2, h3, h4, h5⟩ := info_of hinfo
  refine wpList_make_full w hgd l c t ho w.heap.size e i z sz ht h1 h2 h3 kl kc L C n hl hc hL hC (by rw [h4]; exact hb) hn (Nat.le_refl _) fun w' hown hgr => ?_
  exact h w' ⟨_, (owns_all hown).1, hown.1⟩ ((Below.refl _ w).grown hgr (Nat.le_refl _) fun k hk => by cases hk)
/-- A row of numbers of its own, with a cell to spare. -/
def ListPost (l : List Int) (w : World) (e : Ending) (w' : World) : Prop := Below w.heap.size w w' ∧ ∃ g, e = .returned (.slice (some ⟨g, 0, none⟩) l.length (l.length + 1)) ∧ w.heap.size ≤ g ∧ Holds w' g 3 (l.map intV ++ [.int .i64 77])
set_option maxHeartbeats 1000000 in
set_option maxRecDepth 100000 in
theorem listFn {P : Nat → Prop} {w : World} {v : Value} {l : List Int} (h : RowL P w 1 v l.length (l.map intV)) (hn : l.length ≤ 2000000) : Calls Try.prog 21 #[v] w (ListPost l w) := by
  obtain ⟨a0, k0, rfl, hk0, hk1, _⟩ := h.form
  obtain ⟨n, hnl⟩ : ∃ n, l.length = n := ⟨_, rfl⟩
  have H := Lib.hid h
  have HN := Lib.hid hnl
  rw [hnl] at hn hk0 ⊢
  have hwn : IntKind.i64.wrap ((n : Int) + 1) = (n : Int) + 1 := by rw [IntKind.wrap_i64]; omega
  clear h hnl
  go_enter Try.func21, Try.ntmps21
  go_wp2_with (refine wpList_makeL rfl _ _ _ rfl 3 1 8 Try.underlying44 info_int .i64 .i64 ((n : Int) + 1) ((n : Int) + 1) (n + 1) rfl rfl (by omega) (by omega) (by omega) (by unfold maxLen; omega) ?_)
  intro w1 hm hb1
  obtain ⟨cur, hd, hlen⟩ := hm.out
  have HD := Lib.hid hd
  have HL := Lib.hid hlen
  have HB1 := Lib.hid hb1
  have H1 := Lib.hid (H.out.up (Keep.below hb1))
  have hone : ∀ u ∈ l.map intV, u.oneCell' = true := fun u hu => by
    obtain ⟨z, _, rfl⟩ := List.mem_map.1 hu
    rfl
  clear hm hd hlen hb1
  go_wp2_with (refine wpList_copyL rfl (.tmp 8) (.tmp 9) _ _ rfl 3 1 Try.underlying44 sz_Int w.heap.size (n + 1) (n + 1) n rfl (.slice a0 n k0) rfl (l.map intV) (by rw [← HN.out]; exact H1.out) (by omega) cur HD.out (by rw [List.length_map, HN.out, HL.out]; omega) hone ?_)
  intro w2 hd2 hf2
  have hd2 := hd2.out
  obtain ⟨cs2, hcs⟩ : ∃ c, l.map intV ++ cur.drop (l.map intV).length = c := ⟨_, rfl⟩
  rw [hcs] at hd2
  replace hcs := hcs.symm
  have HD2 := Lib.hid hd2
  have HB2 : Hid (Below w.heap.size w w2) := HB1.out.trans (hf2.to_below HB1.out.size fun q hq e => by omega)
  have HCL : Hid (cs2.length = n + 1) := by
    have h3 := HL.out
    have h4 := HN.out
    show _ = _
    rw [hcs]
    simp
    omega
  have HCT : Hid (cs2.take n = l.map intV) := by
    have h4 := HN.out
    show _ = _
    rw [hcs, List.take_append_of_le_length (by simp; omega), List.take_of_length_le (by simp; omega)]
  have hl2 : n < cs2.length := by rw [HCL.out]; omega
  have hnc : (n : Int) ≤ (n : Int) + 1 := by omega
  have hn0 : (0 : Int) ≤ (n : Int) := by omega
  have hn1 : (n : Int) < (n : Int) + 1 := by omega
  have hwn0 : IntKind.i64.wrap (n : Int) = (n : Int) := by rw [IntKind.wrap_i64]; omega
  clear hd2 hf2 HD HB1 hcs
  go_wp2_with (refine wpList_store1 rfl 3 _ _ rfl w.heap.size n (.int .i64 77) rfl rfl HD2.out hl2 sz_Int rfl rfl ?_)
  refine Named.mk (fun w3 hw3 => ?_)
  have hf3 : Fr (fun q => q = w.heap.size) w2 w3 := by rw [hw3]; exact Fr.setRX _ _ n _
  have HB3 : Hid (Below w.heap.size w w3) := HB2.out.trans (hf3.to_below HB2.out.size fun q hq e => by omega)
  have hd3 := HD2.out.stored hw3 (by rw [HCL.out]; exact Nat.le_refl _)
  rw [HCT.out, List.drop_of_length_le (by rw [HCL.out]; exact Nat.le_refl _), List.append_nil] at hd3
  have HD3 := Lib.hid hd3
  clear hw3 hf3 hd3 HD2 HB2 hl2
  go_wp2
  go_ret
  refine ⟨HB3.out, w.heap.size, ?_, Nat.le_refl _, HD3.out⟩
  rw [HN.out]
  rfl
end Go.Proofs.Ytcedenoicmpjmaa
