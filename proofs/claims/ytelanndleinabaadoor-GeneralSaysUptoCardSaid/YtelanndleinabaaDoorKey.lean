/- Build, Key, joined. -/
import Derived.Test.YtelanndleinabaaDoorSets
import Derived.Lib.FrozenHead
section
/- The walks of a builder's copyCheck and WriteString. -/
namespace Go.Proofs.YtelanndleinabaaDoor
open Go.RowKit
set_option linter.unusedVariables false

theorem sizeB : (Tryd.prog.info? 103).map (·.size) = some 2 := by kernel_rfl
theorem liesB : liesAt Tryd.prog Tryd.prog.depth 103 (2 / Tryd.prog.cellsOf 103) 0 103 1 = true := by kernel_rfl
theorem info5 : (Tryd.prog.info? 5).map (fun i => (i.zero, i.size, i.bytes)) = some (some (.int .u8 0), 1, 1) := by kernel_rfl

set_option maxHeartbeats 1000000 in
set_option maxRecDepth 100000 in
theorem copyUsed (b : Nat) (w : World) (h0 : w.cell? ⟨b, 0, none⟩ = some (.pointer (some ⟨b, 0, none⟩))) :
    Calls Tryd.prog 54 #[.pointer (some ⟨b, 0, none⟩)] w fun e w' => e = .returned (.tuple #[]) ∧ w' = w := by
  obtain ⟨j, hj, _⟩ := Option.map_eq_some_iff.1 sizeB
  go_enter Tryd.func54, Tryd.ntmps54
  go_wp2
  rw [Lib.run_neq_ptr_same w _ Tryd.underlying100 hj]
  go_wp2
  go_end0
  exact ⟨rfl, rfl⟩
set_option maxHeartbeats 1000000 in
set_option maxRecDepth 100000 in
theorem copyFresh (b : Nat) (w : World) (h0 : w.cell? ⟨b, 0, none⟩ = some (.pointer none)) (hsh : w.shape? b = some (103, 2)) (hfz : w.frozen? ⟨b, 0, none⟩ = false) :
    Calls Tryd.prog 54 #[.pointer (some ⟨b, 0, none⟩)] w fun e w' => e = .returned (.tuple #[]) ∧ w' = w.setCell ⟨b, 0, none⟩ (.pointer (some ⟨b, 0, none⟩)) := by
  obtain ⟨j, hj, hjs⟩ := Option.map_eq_some_iff.1 sizeB
  go_enter Tryd.func54, Tryd.ntmps54
  go_wp2
  rw [Lib.run_to_unsafe w ⟨b, 0, none⟩ Tryd.underlying100 Tryd.underlying123 hj (by rw [hjs]; decide) hsh (Nat.zero_lt_succ 1)]
  simp only [Result.andThen]
  rw [Oper.upon_value]
  go_wp2
  rw [run_callFunc_extern Tryd.func62 (by kernel_rfl) (by kernel_rfl) (by kernel_rfl) (e := Extern.AbiNoEscape.same) (by kernel_rfl)]
  rw [Lib.run_noEscape]
  simp only [Result.andThen]
  rw [Oper.upon_value]
  go_wp2
  rw [Lib.run_from_unsafe w ⟨b, 0, none⟩ Tryd.underlying123 Tryd.underlying100 hj hsh liesB]
  simp only [Result.andThen]
  rw [Oper.upon_value]
  go_wp2
  go_end0
  exact ⟨rfl, rfl⟩
theorem copyCheck (B b : Nat) (bs : List Value) (w : World) (h : Lib.IsBuilderF 103 5 B b bs w) :
    Calls Tryd.prog 54 #[.pointer (some ⟨b, 0, none⟩)] w fun e w' => e = .returned (.tuple #[]) ∧ (Lib.BuilderAtF 103 5 B b (.pointer (some ⟨b, 0, none⟩)) bs w' ∧ Below B w w') := by
  rcases h with h | h
  · refine (copyFresh b w h.cell0 h.shape h.frozen0).mono ?_
    rintro e w' ⟨rfl, rfl⟩
    exact ⟨rfl, h.used _, (Below.refl B w).setCell (p := ⟨b, 0, none⟩) h.1 _⟩
  · refine (copyUsed b w h.cell0).mono ?_
    rintro e w' ⟨rfl, rfl⟩
    exact ⟨rfl, h, Below.refl B _⟩

set_option maxHeartbeats 2000000 in
set_option maxRecDepth 100000 in
theorem writeString (B b : Nat) (bs : List Value) (s : ByteArray) (w : World) (h : Lib.IsBuilderF 103 5 B b bs w) (hlen : bs.length + s.size ≤ 140737488355328) (hBw : B ≤ w.heap.size) :
    Calls Tryd.prog 43 #[.pointer (some ⟨b, 0, none⟩), .string s] w fun e w' => e = .returned (.tuple #[.int .i64 s.size, .nilIface]) ∧ (Lib.IsBuilderF 103 5 B b (bs ++ Lib.strCells s) w' ∧ Below B w w') := by
  obtain ⟨i0, hi, hz0, hz1, hz2⟩ := info_parts info5
  have HC := Lib.hid (copyCheck B b bs w h)
  clear h
  go_enter Tryd.func43, Tryd.ntmps43
  go_wp2_with (fail)
  refine (HC.out).mono ?_
  rintro e w1 ⟨rfl, h1, hb1⟩
  obtain ⟨hB, v, hbk, hown, hne⟩ := h1
  have c1 : w1.cell? ⟨b, 1, none⟩ = some v := by rw [Lib.cell_of_heap hbk]; rfl
  go_wp2_with (at_builtin; refine Lib.wpList_append_own_stringF _ rfl _ _ 101 9 rfl B 5 i0 Tryd.underlying101 Tryd.underlying9 hi hz0 hz1 hz2 _ _ _ rfl hown s rfl ?c3 ?c4 ?c5 ?_)
  case c3 => unfold maxLen; omega
  case c4 => omega
  case c5 => have := hb1.size; omega
  intro v' w2 hown' hgrow _
  have hlt : b < w1.heap.size := (Array.getElem?_eq_some_iff.1 hbk).1
  have hb2 : w2.heap[b]? = some (.cells #[.pointer (some ⟨b, 0, none⟩), v] 103 (0, 0)) := by
    rw [hgrow.block b hlt (fun e => hne e.symm)]
    exact hbk
  have d0 : w2.cell? ⟨b, 0, none⟩ = some (.pointer (some ⟨b, 0, none⟩)) := by rw [Lib.cell_of_heap hb2]; rfl
  have d1 : w2.cell? ⟨b, 1, none⟩ = some v := by rw [Lib.cell_of_heap hb2]; rfl
  have f1 : w2.frozen? ⟨b, 1, none⟩ = false := Lib.frozen_of_heap hb2 1
  obtain ⟨ao, n', cap, rfl⟩ : ∃ ao n' cap, v' = .slice ao n' cap := by
    rcases hown'.2 with ⟨hv, _⟩ | ⟨g, cap, cur, fz, hv, _⟩
    · exact ⟨_, _, _, hv⟩
    · exact ⟨_, _, _, hv⟩
  go_wp2
  go_ret2
  refine ⟨rfl, ?_, ?_⟩
  · exact .inr (Lib.BuilderAtF.put (T := 103) (e := 5) hB hb2 (bs' := bs ++ Lib.strCells s) (by simpa [Lib.strCells_length] using hown') (by decide))
  · exact (hb1.grown hgrow (by have := hb1.size; omega) (fun k hk => (hown.lt k hk).1)).setCell (p := ⟨b, 1, none⟩) hB _
end Go.Proofs.YtelanndleinabaaDoor
end
section
/- Keys of sets of states; the map from keys to numbers. -/
namespace Go.Proofs.YtelanndleinabaaDoor
open Go.RowKit
open Go.Maps (Keyed string_keyed)
set_option linter.unusedVariables false

def keyB : List Int → List UInt8
  | [] => []
  | n :: r => Lib.decDigits n.toNat ++ 32 :: keyB r
def digVal (l : List UInt8) : Nat := l.foldl (fun acc b => acc * 10 + (b.toNat - 48)) 0
theorem digVal_snoc (l : List UInt8) (b : UInt8) : digVal (l ++ [b]) = digVal l * 10 + (b.toNat - 48) := by simp [digVal, List.foldl_append]
theorem dig_toNat {d : Nat} (h : d < 10) : (UInt8.ofNat (48 + d)).toNat = 48 + d := by
  rw [UInt8.toNat_ofNat']
  omega
theorem digVal_dec : ∀ (u : Nat), digVal (Lib.decDigits u) = u := by
  intro u
  induction u using Nat.strongRecOn with
  | _ u ih =>
    rw [Lib.decDigits]
    split
    · rename_i h
      show 0 * 10 + ((UInt8.ofNat (48 + u)).toNat - 48) = u
      rw [dig_toNat h]; omega
    · rw [digVal_snoc, ih (u / 10) (by omega), dig_toNat (by omega)]
      omega
theorem dec_ge : ∀ (u : Nat), ∀ b ∈ Lib.decDigits u, 48 ≤ b.toNat := by
  intro u
  induction u using Nat.strongRecOn with
  | _ u ih =>
    intro b hb
    rw [Lib.decDigits] at hb
    split at hb
    · rename_i h
      rw [List.mem_singleton.1 hb, dig_toNat h]; omega
    · rcases List.mem_append.1 hb with hb | hb
      · exact ih (u / 10) (by omega) b hb
      · rw [List.mem_singleton.1 hb, dig_toNat (by omega)]; omega
theorem split_at {s : UInt8} : ∀ {p p' q q' : List UInt8}, (∀ x ∈ p, x ≠ s) → (∀ x ∈ p', x ≠ s) → p ++ s :: q = p' ++ s :: q' → p = p' ∧ q = q'
  | [], [], q, q', _, _, h => by simpa using h
  | [], y :: p', q, q', _, h2, h => by
    injection h with h _
    exact absurd h.symm (h2 y (List.mem_cons_self ..))
  | x :: p, [], q, q', h1, _, h => by
    injection h with h _
    exact absurd h (h1 x (List.mem_cons_self ..))
  | x :: p, y :: p', q, q', h1, h2, h => by
    injection h with h h'
    obtain ⟨e1, e2⟩ := split_at (fun z hz => h1 z (List.mem_cons_of_mem _ hz)) (fun z hz => h2 z (List.mem_cons_of_mem _ hz)) h'
    exact ⟨by rw [h, e1], e2⟩
theorem keyB_inj : ∀ {l l' : List Int}, (∀ x ∈ l, 0 ≤ x) → (∀ x ∈ l', 0 ≤ x) → keyB l = keyB l' → l = l'
  | [], [], _, _, _ => rfl
  | [], y :: r, _, _, h => by
    exfalso
    have := congrArg List.length h
    simp [keyB] at this
  | x :: r, [], _, _, h => by
    exfalso
    have := congrArg List.length h
    simp [keyB] at this
  | x :: r, y :: r', h1, h2, h => by
    have hn : ∀ u, ∀ b ∈ Lib.decDigits u, b ≠ 32 := fun u b hb e => by
      have := dec_ge u b hb
      rw [e] at this
      exact absurd this (by decide)
    obtain ⟨e1, e2⟩ := split_at (hn _) (hn _) h
    have e3 := congrArg digVal e1
    rw [digVal_dec, digVal_dec] at e3
    have hx := h1 x (List.mem_cons_self ..)
    have hy := h2 y (List.mem_cons_self ..)
    have e4 : x = y := by omega
    rw [e4, keyB_inj (fun z hz => h1 z (List.mem_cons_of_mem _ hz)) (fun z hz => h2 z (List.mem_cons_of_mem _ hz)) e2]
theorem dec_small {u : Nat} (h : u < 100) : (Lib.decDigits u).length ≤ 2 := by
  rw [Lib.decDigits]
  split
  · simp
  · rw [Lib.decDigits, dif_pos (by omega)]; simp
theorem keyB_len : ∀ {l : List Int}, (∀ x ∈ l, x < 100) → (keyB l).length ≤ 3 * l.length
  | [], _ => Nat.le_refl _
  | x :: r, h => by
    have h1 := dec_small (u := x.toNat) (by have := h x (List.mem_cons_self ..); omega)
    have h2 := keyB_len (l := r) (fun z hz => h z (List.mem_cons_of_mem _ hz))
    simp [keyB]; omega
theorem keyB_snoc (l : List Int) (x : Int) : keyB (l ++ [x]) = keyB l ++ (Lib.decDigits x.toNat ++ [32]) := by
  induction l with
  | nil => simp [keyB]
  | cons y r ih => simp [keyB, ih]

/-- A set of states, as it may stand in a key. -/
def Small (l : List Int) : Prop := (∀ x ∈ l, 0 ≤ x ∧ x < 100) ∧ l.length ≤ 8192
def kS (l : List Int) : Lit := .string (keyB l)
theorem kS_ne {l l' : List Int} (h : Small l) (h' : Small l') (hne : l ≠ l') : kS l ≠ kS l' := fun e => by
  unfold kS at e
  injection e with e
  exact hne (keyB_inj (fun x hx => (h.1 x hx).1) (fun x hx => (h'.1 x hx).1) e)
theorem kS_key (l : List Int) : WideAt.IsKeyLit (kS l) := by simp [kS, WideAt.IsKeyLit]
theorem keyOf_kS {l : List Int} (h : Small l) : keyOf Tryd.prog 9 (.string ⟨(keyB l).toArray⟩) = some (kS l) := by
  have h1 := keyB_len (l := l) (fun x hx => (h.1 x hx).2)
  have h2 := h.2
  exact WideMaps.keyOf_string_mk (P := Tryd.prog) Tryd.underlying9 (s := ⟨(keyB l).toArray⟩) (by
    show (keyB l).toArray.size ≤ maxLen
    rw [List.size_toArray]; unfold maxLen; omega)
/-- Block b is the map from the keys of rows to their places. -/
def SMap (w : World) (b : Nat) (rows : List (List Int)) : Prop :=
  (∀ l ∈ rows, Small l) ∧ rows.length ≤ 4096 ∧ ∃ D : DataW Unit, w.ownsMap Tryd.prog 9 (plainElem Tryd.prog 3) b rows.length D ∧ Maps.IsMap D ∧
    ∀ l, Small l → Maps.has D (kS l) = decide (l ∈ rows) ∧ (l ∈ rows → ∀ z, D.atKey (kS l) z = .lit (.int .i64 (rows.idxOf l : Int)))
section
variable {w w' : World} {b : Nat} {rows : List (List Int)}
theorem SMap.lt (h : SMap w b rows) : b < w.heap.size := let ⟨_, _, _, h, _⟩ := h; h.lt
theorem SMap.of_eq (h : SMap w b rows) (e : w'.heap[b]? = w.heap[b]?) : SMap w' b rows := by
  obtain ⟨h0, h1, D, ⟨es, clock, hb, r⟩, h2⟩ := h
  exact ⟨h0, h1, D, ⟨es, clock, e.trans hb, r⟩, h2⟩
theorem SMap.obj (h : SMap w b rows) : ∃ es clock, w.heap[b]? = some (.map es clock) := by
  obtain ⟨h0, h1, D, ⟨es, clock, hb, r⟩, h2⟩ := h
  exact ⟨es, clock, hb⟩
theorem SMap.new (w : World) : SMap (w.alloc (.map #[] 0)) w.heap.size [] :=
  ⟨by simp, by simp, .map [], World.ownsMap_made w _ _ _, Maps.isMap_empty, fun l _ => ⟨by simp [Maps.has], fun h => by cases h⟩⟩
theorem wpList_sgetok (w : World) {ops : Array Oper} {rest : List Oper} {o : Oper} {a : Act} {Q : Exit → Act → World → Prop} (hg : o.guard = none) (m x : Operand) (hop : o.op = Op.lookup 82 m x true) (hm : a.eval m = .map (some b)) (hown : SMap w b rows) (l : List Int) (hl : Small l) (hx : a.eval x = .string ⟨(keyB l).toArray⟩)
    (c : Nat) (bo : Bool) (hb : decide (l ∈ rows) = bo) (hc : (if l ∈ rows then rows.idxOf l else 0) = c)
    (hK : wpList Tryd.prog ops Q rest (a.put o.dst (.tuple #[.int .i64 (c : Int), .bool bo])) w) : wpList Tryd.prog ops Q (o :: rest) a w := by
  obtain ⟨h0, h1, D, hD, hM, hv⟩ := hown
  refine wpList_lookup_own_ok_int w hg m x 82 hop 9 3 .i64 (string_keyed Tryd.underlying9) Tryd.underlying82 Tryd.underlying3 (zero_int w) b _ D hm hD _ (kS l) hx (keyOf_kS hl) ?_
  intro c' hat _
  rw [(hv l hl).1, hb]
  have hcc : (c' : Int) = (c : Int) := by
    by_cases h : l ∈ rows
    · have e := ((hv l hl).2 h (.lit (.int .i64 0))).symm.trans hat
      have e2 := (Lit.int.inj (DataW.lit.inj e)).2
      rw [if_pos h] at hc
      rw [← e2, hc]
    · have hh : Maps.has D (kS l) = false := by rw [(hv l hl).1]; exact decide_eq_false h
      have e := (Maps.atKey_of_not_has hh (.lit (.int .i64 0))).symm.trans hat
      have e2 := (Lit.int.inj (DataW.lit.inj e)).2
      rw [if_neg h] at hc
      rw [← e2, ← hc]; rfl
  rw [hcc]
  exact hK
theorem SMap.run_get (hown : SMap w b rows) (l : List Int) (hl : Small l) (c : Nat) (bo : Bool) (hb : decide (l ∈ rows) = bo) (hc : (if l ∈ rows then rows.idxOf l else 0) = c) :
    (Instr.lookup 82 (.map (some b)) (.string ⟨(keyB l).toArray⟩) true).run Tryd.prog w = .ok (.tuple #[.int .i64 (c : Int), .bool bo]) w := by
  obtain ⟨h0, h1, D, hD, hM, hv⟩ := hown
  obtain ⟨u, ps, hrun, hR⟩ := hD.look_ok (string_keyed Tryd.underlying9) Tryd.underlying82 (zero_int w) (plainElem_int Tryd.underlying3 (a := 0) (by decide)) (keyOf_kS hl)
  obtain ⟨c', rfl, hz, _⟩ := plainElem_int_inv Tryd.underlying3 hR
  rw [hrun, (hv l hl).1, hb]
  have hat := congrArg Prod.fst hz
  have hcc : (c' : Int) = (c : Int) := by
    by_cases h : l ∈ rows
    · have e := ((hv l hl).2 h (.lit (.int .i64 0))).symm.trans hat
      have e2 := (Lit.int.inj (DataW.lit.inj e)).2
      rw [if_pos h] at hc
      rw [← e2, hc]
    · have hh : Maps.has D (kS l) = false := by rw [(hv l hl).1]; exact decide_eq_false h
      have e := (Maps.atKey_of_not_has hh (.lit (.int .i64 0))).symm.trans hat
      have e2 := (Lit.int.inj (DataW.lit.inj e)).2
      rw [if_neg h] at hc
      rw [← e2, ← hc]; rfl
  rw [hcc]
theorem idxOf_snoc {rows : List (List Int)} {l l' : List Int} (h : l ∈ rows) : (rows ++ [l']).idxOf l = rows.idxOf l := by
  rw [List.idxOf_append, if_pos h]
theorem idxOf_last {rows : List (List Int)} {l : List Int} (h : l ∉ rows) : (rows ++ [l]).idxOf l = rows.length := by
  rw [List.idxOf_append, if_neg h]; simp
theorem wpList_sput (w : World) {ops : Array Oper} {rest : List Oper} {o : Oper} {a : Act} {Q : Exit → Act → World → Prop} (hg : o.guard = none) (m x v : Operand) (hop : o.op = Op.mapUpdate 82 m x v) (hm : a.eval m = .map (some b)) (hown : SMap w b rows) (l : List Int) (hl : Small l) (hx : a.eval x = .string ⟨(keyB l).toArray⟩)
    (hv' : a.eval v = .int .i64 (rows.length : Int)) (hnew : l ∉ rows) (hroom : rows.length < 4096)
    (hK : ∀ w', SMap w' b (rows ++ [l]) → w.grownBy w' (some b) → wpList Tryd.prog ops Q rest (a.put o.dst undef) w') : wpList Tryd.prog ops Q (o :: rest) a w := by
  obtain ⟨h0, h1, D, hD, hM, hv⟩ := hown
  refine wpList_mapUpdate_own w hg m x v 82 hop 9 3 (string_keyed Tryd.underlying9) Tryd.underlying82 _ b _ D hm hD (by unfold maxLen; omega) _ _ (kS l) hx hv' (keyOf_kS hl) (.lit (.int .i64 (rows.length : Int))) [] (plainElem_int Tryd.underlying3 (lit_wf (by omega))) ?_
  intro w' hD' hg'
  refine hK w' ⟨?_, ?_, _, by rw [List.length_append]; exact hD', hM.put _ _, ?_⟩ hg'
  · intro z hz
    rcases List.mem_append.1 hz with hz | hz
    · exact h0 z hz
    · rw [List.mem_singleton.1 hz]; exact hl
  · rw [List.length_append, List.length_singleton]; omega
  · intro z hz
    by_cases e : z = l
    · subst e
      refine ⟨by rw [Maps.has_put_same hM (kS_key z)]; simp, fun _ q => ?_⟩
      rw [Maps.atKey_put_same hM (kS_key z), idxOf_last hnew]
    · have hne := kS_ne hz hl e
      have hmem : z ∈ rows ++ [l] ↔ z ∈ rows := by simp [e]
      refine ⟨by rw [Maps.has_put_other hne, (hv z hz).1]; simp [e], fun hin q => ?_⟩
      have hin' := hmem.1 hin
      rw [Maps.atKey_put_other hne, (hv z hz).2 hin' q, idxOf_snoc hin']
theorem SMap.run_put (hown : SMap w b rows) (l : List Int) (hl : Small l) (hnew : l ∉ rows) (hroom : rows.length < 4096) :
    ∃ w', (Instr.mapUpdate 82 (.map (some b)) (.string ⟨(keyB l).toArray⟩) (.int .i64 (rows.length : Int))).run Tryd.prog w = .ok () w' ∧ SMap w' b (rows ++ [l]) ∧ w.grownBy w' (some b) := by
  obtain ⟨h0, h1, D, hD, hM, hv⟩ := hown
  obtain ⟨w', hrun, hD', hg'⟩ := hD.update (string_keyed Tryd.underlying9) Tryd.underlying82 (by unfold maxLen; omega) (keyOf_kS hl) (plainElem_int Tryd.underlying3 (a := (rows.length : Int)) (lit_wf (by omega)))
  refine ⟨w', hrun, ⟨?_, ?_, _, by rw [List.length_append]; exact hD', hM.put _ _, ?_⟩, hg'⟩
  · intro z hz
    rcases List.mem_append.1 hz with hz | hz
    · exact h0 z hz
    · rw [List.mem_singleton.1 hz]; exact hl
  · rw [List.length_append, List.length_singleton]; omega
  · intro z hz
    by_cases e : z = l
    · subst e
      refine ⟨by rw [Maps.has_put_same hM (kS_key z)]; simp, fun _ q => ?_⟩
      rw [Maps.atKey_put_same hM (kS_key z), idxOf_last hnew]
    · have hne := kS_ne hz hl e
      have hmem : z ∈ rows ++ [l] ↔ z ∈ rows := by simp [e]
      refine ⟨by rw [Maps.has_put_other hne, (hv z hz).1]; simp [e], fun hin q => ?_⟩
      have hin' := hmem.1 hin
      rw [Maps.atKey_put_other hne, (hv z hz).2 hin' q, idxOf_snoc hin']
end
end Go.Proofs.YtelanndleinabaaDoor
end
