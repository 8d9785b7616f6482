/- The maker's memory; the walk of state. -/
import Derived.Test.YtelanndleinabaaDoorKey
import Derived.Deep.RegionHeld3
namespace Go.Proofs.YtelanndleinabaaDoor
open Go.RowKit
set_option linter.unusedVariables false

/-- Rows of other types than the maker's own are left alone. -/
structure Kq (w w' : World) : Prop where
  size : w.heap.size ≤ w'.heap.size
  row : ∀ (g : Nat) (cs : Array Value) (t : TypeId), t ≠ 84 → t ≠ 22 → w.heap[g]? = some (.cells cs t (0, 0)) → w'.heap[g]? = some (.cells cs t (0, 0))
structure MkM (β M nb : Nat) (w : World) (va vs vf vr : Value) (rows : List (List Int)) (rvs : List Value) (mv : Nat) : Prop where
  t : Holds w M 84 [va, vs, vf, .map (some nb), vr, .int .i64 (mv : Int)]
  bt : β ≤ M ∧ β ≤ nb
  num : SMap w nb rows
  row : w.ownsRow β 22 1 vr rows.length rvs
  each : ∀ (i : Nat) (h : i < rows.length), ∃ u, rvs[i]? = some u ∧ AnyI β w u rows[i]
theorem MkM.below {β M nb mv : Nat} {w w' : World} {va vs vf vr : Value} {rows : List (List Int)} {rvs : List Value} (h : MkM β M nb w va vs vf vr rows rvs mv) (hb : Below w.heap.size w w') : MkM β M nb w' va vs vf vr rows rvs mv := by
  have hβ : β ≤ w.heap.size := Nat.le_trans h.bt.1 (Nat.le_of_lt h.t.lt)
  exact ⟨h.t.belowAll hb, h.bt, h.num.of_eq (hb.block _ h.num.lt), (Fr.of_below hb (fun _ => False)).owns h.row (fun _ _ h => h), fun i hi => let ⟨u, hu, ha⟩ := h.each i hi; ⟨u, hu, ha.below hβ hb⟩⟩
theorem freshBuilder (w : World) : Lib.IsBuilderF 103 5 w.heap.size w.heap.size [] (w.alloc (.cells #[.pointer none, .slice none 0 0] 103)) :=
  .inl ⟨Nat.le_refl _, .slice none 0 0, heap_alloc_new w _, ⟨rfl, .inl ⟨rfl, rfl⟩⟩, by simp [Value.ownBlock]⟩

theorem Kq.of_below {w w' : World} (h : Below w.heap.size w w') : Kq w w' := ⟨h.size, fun g cs t _ _ hg => (h.block g (Array.getElem?_eq_some_iff.1 hg).1).trans hg⟩
section
variable {a w w' : World}
theorem Kq.trans (h : Kq a w) (k : Kq w w') : Kq a w' := ⟨Nat.le_trans h.size k.size, fun g cs t h1 h2 h3 => k.row g cs t h1 h2 (h.row g cs t h1 h2 h3)⟩
theorem Kq.grown {b : Option Nat} (h : Kq a w) (hg : w.grownBy w' b) (hb : ∀ (g : Nat) (cs : Array Value) (t : TypeId), b = some g → w.heap[g]? = some (.cells cs t (0, 0)) → t = 84 ∨ t = 22) : Kq a w' :=
  h.trans ⟨hg.size, fun g cs t h1 h2 h3 => (hg.block g (Array.getElem?_eq_some_iff.1 h3).1 fun e => by rcases hb g cs t e.symm h3 with h | h; exact h1 h; exact h2 h).trans h3⟩
theorem Kq.smap {b : Nat} {rows : List (List Int)} (h : Kq a w) (hg : w.grownBy w' (some b)) (hm : SMap w b rows) : Kq a w' :=
  h.grown hg fun g cs t e hc => by
    injection e with e
    subst e
    obtain ⟨es, ck, ho⟩ := hm.obj
    rw [ho] at hc; cases hc
theorem Kq.own {base size n : Nat} {v : Value} {xs : List Value} (h : Kq a w) (hg : w.grownBy w' v.ownBlock) (ho : w.ownsRow base 22 size v n xs) : Kq a w' :=
  h.grown hg fun g cs t e hc => by
    rcases ho.2 with ⟨rfl, _⟩ | ⟨g', cap, cur, rfl, _, hh, _⟩
    · cases e
    · have : g' = g := by simpa [Value.ownBlock] using e
      subst this
      rw [hh] at hc
      injection hc with hc
      injection hc with _ ht
      exact .inr ht.symm
theorem Kq.put {g : Nat} {cs : List Value} (h : Kq a w) (hh : Holds w g 84 cs) (i : Nat) (u : Value) : Kq a (w.setCell ⟨g, i, none⟩ u) :=
  h.trans ⟨by simp [World.setCell], fun g' cs' t h1 h2 h3 => (Below.heap_setCell w ⟨g, i, none⟩ u g' (by
    rintro rfl
    unfold Holds at hh
    rw [hh] at h3
    injection h3 with h3
    injection h3 with _ ht
    exact h1 ht.symm)).trans h3⟩
theorem Kq.owns {base size n : Nat} {e : TypeId} {v : Value} {xs : List Value} (h : Kq w w') (ho : w.ownsRow base e size v n xs) (h1 : e ≠ 84) (h2 : e ≠ 22) : w'.ownsRow base e size v n xs := by
  refine ⟨ho.1, ?_⟩
  rcases ho.2 with h0 | ⟨g, cap, cur, rfl, hb, hgg, rest⟩
  · exact .inl h0
  · exact .inr ⟨g, cap, cur, rfl, hb, h.row g cur e h1 h2 hgg, rest⟩
theorem AnyI.kq {β : Nat} {v : Value} {xs : List Int} (h : AnyI β w v xs) (hk : Kq w w') (hb : Below β w w') : AnyI β w' v xs := by
  rcases h with h | ⟨h1, h2⟩
  · exact .inl (h.below hb)
  · exact .inr ⟨hk.owns h1 (by decide) (by decide), h2⟩
end
/-- A set more. -/
theorem MkM.add {β M nb mv : Nat} {w5 w6 w7 w8 : World} {va vs vf vr vr' v : Value} {rows : List (List Int)} {rvs : List Value} {l : List Int} (h : MkM β M nb w5 va vs vf vr rows rvs mv) (hv : AnyI β w5 v l) (hg : w5.grownBy w6 (some nb)) (hS : SMap w6 nb (rows ++ [l]))
    (hal : Below w6.heap.size w6 w7) (hg2 : w7.grownBy w8 vr.ownBlock) (hrow : w8.ownsRow β 22 1 vr' (rows.length + 1) (rvs ++ [v])) :
    MkM β M nb (w8.setCell ⟨M, 4, none⟩ vr') va vs vf vr' (rows ++ [l]) (rvs ++ [v]) mv ∧ Kq w5 (w8.setCell ⟨M, 4, none⟩ vr') ∧ Below β w5 (w8.setCell ⟨M, 4, none⟩ vr') ∧ w8.cell? ⟨M, 4, none⟩ = some vr ∧ w8.frozen? ⟨M, 4, none⟩ = false := by
  obtain ⟨b1, b2⟩ := h.bt
  have hβ5 : β ≤ w5.heap.size := Nat.le_trans b1 (Nat.le_of_lt h.t.lt)
  have hT6 := h.t.of_eq (hg.block _ h.t.lt (fun e => h.t.ne_map h.num.obj (Option.some.inj e)))
  have hR6 := h.row.kept hg (.inr (ownBlock_ne_map h.row h.num.obj))
  have hT7 := hT6.belowAll hal
  have hR7 := (Fr.of_below hal (fun _ => False)).owns hR6 (fun _ _ h => h)
  have hS7 := hS.of_eq (hal.block _ hS.lt)
  have hT8 := own_kept hR7 hg2 hT7 (by decide)
  have hS8 := hS7.of_eq (hg2.block _ hS7.lt (fun e => ownBlock_ne_map hR7 hS7.obj e.symm))
  have k6 := (Kq.of_below (Below.refl _ w5)).smap hg h.num
  have k7 := k6.trans (Kq.of_below hal)
  have k8 := k7.own hg2 hR7
  have k9 := k8.put hT8 4 vr'
  have be6 := (Below.refl β w5).grown hg hβ5 (fun k e => by injection e with e; omega)
  have hβ6 : β ≤ w6.heap.size := Nat.le_trans hβ5 hg.size
  have be7 := be6.trans (hal.mono hβ6)
  have be8 := be7.grown hg2 (Nat.le_trans hβ6 hal.size) (fun k e => (hR7.lt k e).1)
  have be9 := be8.setCell (p := ⟨M, 4, none⟩) b1 vr'
  have hlen := h.row.1
  refine ⟨⟨(hT8.put 4 vr').to rfl, h.bt, hS8.of_eq (Below.heap_setCell _ _ _ _ (hT8.ne_map hS8.obj).symm), ?_, ?_⟩, k9, be9, hT8.cell 4, hT8.free 4⟩
  · rw [List.length_append, List.length_singleton]
    exact own_put hrow hT8 (by decide)
  · intro i hi
    rw [List.length_append, List.length_singleton] at hi
    by_cases e : i < rows.length
    · obtain ⟨u, hu, ha⟩ := h.each i e
      refine ⟨u, by rw [List.getElem?_append_left (by omega)]; exact hu, ?_⟩
      rw [List.getElem_append_left e]
      exact ha.kq k9 be9
    · have e2 : i = rows.length := by omega
      subst e2
      refine ⟨v, by rw [List.getElem?_append_right (by omega)]; simp [hlen], ?_⟩
      have : (rows ++ [l])[rows.length]'(by simp) = l := by simp
      rw [this]
      exact hv.kq k9 be9
/-- What state answers: the number, and the sets behind it. -/
def stateRes (rows : List (List Int)) (l : List Int) : Option (Nat × List (List Int)) := if l ∈ rows then some (rows.idxOf l, rows) else if rows.length < 4096 then some (rows.length, rows ++ [l]) else none
theorem Tryd.info22 : (Tryd.prog.info? 22).map (fun i => (i.zero, i.size, i.bytes)) = some (some (.slice none 0 0), 1, 24) := by kernel_rfl
def manyChain : List PanicEntry := [{ v := .iface 79 (.agg #[]), recovered := false }]
def StateOut (β M nb mv : Nat) (w : World) (va vs vf : Value) (rvs : List Value) (v : Value) (r : Option (Nat × List (List Int))) (e : Ending) (w' : World) : Prop :=
  match r with
  | some (i, rows') => e = .returned (.int .i64 (i : Int)) ∧ ∃ vr' rvs', MkM β M nb w' va vs vf vr' rows' rvs' mv ∧ Kq w w' ∧ Below β w w' ∧ (rvs' = rvs ∨ rvs' = rvs ++ [v])
  | none => e = .panicked manyChain ∧ Kq w w' ∧ Below β w w'

set_option maxHeartbeats 4000000 in
set_option maxRecDepth 100000 in
theorem stateFn (β M nb mv : Nat) (w : World) (va vs vf vr : Value) (rows : List (List Int)) (rvs : List Value) (v : Value) (l : List Int) (hM : MkM β M nb w va vs vf vr rows rvs mv) (hv : AnyI β w v l) (hl : Small l) :
    Calls Tryd.prog 31 #[.pointer (some ⟨M, 0, none⟩), v] w fun e w' => StateOut β M nb mv w va vs vf rvs v (stateRes rows l) e w' := by
  have hβ : β ≤ w.heap.size := Nat.le_trans hM.bt.1 (Nat.le_of_lt hM.t.lt)
  have hMlt := hM.t.lt
  have HM := Lib.hid hM
  obtain ⟨SR, hSR⟩ : ∃ SR, stateRes rows l = SR := ⟨_, rfl⟩
  rw [hSR]
  have HSR := Lib.hid hSR
  clear hSR
  have HL := Lib.hid hl
  have hr := hv.read hβ
  obtain ⟨a, cap, rfl, hc1, hc2⟩ := hr.form
  obtain ⟨n, hn⟩ : ∃ n, l.length = n := ⟨_, rfl⟩
  rw [hn] at hc1 hr ⊢
  have HR := Lib.hid hr
  have HN := Lib.hid hn
  have hn2 : n ≤ 8192 := by rw [← hn]; exact hl.2
  have hF := freshBuilder w
  have hB0 : Below w.heap.size w (w.alloc (.cells #[.pointer none, .slice none 0 0] 103)) := (Below.refl _ _).alloc (Nat.le_refl _) _
  have hF0 : Hid (Lib.IsBuilderF 103 5 w.heap.size w.heap.size (Lib.byteCells (keyB (l.take 0))) (w.alloc (.cells #[.pointer none, .slice none 0 0] 103))) := hF
  have HV := Lib.hid hv
  clear hM hl hv hr hn hF
  go_enter Tryd.func31, Tryd.ntmps31
  go_wp2
  go_loopw [12] (fun y wr => ∃ j : Nat, y = .int .i64 (j : Int) ∧ j ≤ n ∧ Hid (Lib.IsBuilderF 103 5 w.heap.size w.heap.size (Lib.byteCells (keyB (l.take j))) wr) ∧ Below w.heap.size w wr) (fun y _ => (n + 10 - intOf y).toNat)
  case atStart => exact ⟨0, rfl, Nat.zero_le _, hF0, hB0⟩
  case round =>
    clear hF0 hB0
    obtain ⟨j, rfl, hj, HF, hB⟩ := hrel
    by_cases hjn : j < n
    · have hjn' : (j : Int) < (n : Int) := by omega
      obtain ⟨x, hxq⟩ : ∃ x, l[j]? = some x := ⟨_, List.getElem?_eq_getElem (by rw [HN.out]; exact hjn)⟩
      obtain ⟨g, o, rfl, hg, hcell⟩ := (HR.out.below hB).at (k := j) (by rw [HN.out]; exact hjn)
      rw [(List.getElem?_eq_some_iff.1 hxq).2] at hcell
      obtain ⟨x0, x1⟩ := HL.out.1 x (List.mem_of_getElem? hxq)
      obtain ⟨X, hX⟩ : ∃ X : Nat, x = (X : Int) := ⟨x.toNat, by omega⟩
      have hta := take_at hxq
      have hkey : keyB (l.take (j + 1)) = keyB (l.take j) ++ (Lib.decDigits X ++ [32]) := by rw [hta, keyB_snoc, hX]; rfl
      have hkl : (keyB (l.take j)).length ≤ 3 * 8192 := by
        have h1 := keyB_len (l := l.take j) (fun z hz => (HL.out.1 z (List.mem_of_mem_take hz)).2)
        rw [List.length_take] at h1
        omega
      have hdl := dec_small (u := X) (by omega)
      rw [hX] at hcell
      have HKEY := Lib.hid hkey
      have hX100 : X < 100 := by omega
      have hadd : (Op.stringOp .add ⟨(Lib.decDigits X).toArray⟩ ⟨#[32]⟩).run Tryd.prog wr = .ok (.string ⟨(Lib.decDigits X ++ [32]).toArray⟩) wr := run_string_add_lists wr (Lib.decDigits X) [32] (by omega) (by simp)
      have HWS : Hid (Calls Tryd.prog 43 #[.pointer (some ⟨w.heap.size, 0, none⟩), .string ⟨(Lib.decDigits X ++ [32]).toArray⟩] wr fun e w' => e = .returned (.tuple #[.int .i64 ((⟨(Lib.decDigits X ++ [32]).toArray⟩ : ByteArray).size : Int), .nilIface]) ∧ (Lib.IsBuilderF 103 5 w.heap.size w.heap.size (Lib.byteCells (keyB (l.take (j + 1)))) w' ∧ Below w.heap.size wr w')) := by
        have h1 := writeString w.heap.size w.heap.size (Lib.byteCells (keyB (l.take j))) ⟨(Lib.decDigits X ++ [32]).toArray⟩ wr HF.out (by
          rw [Lib.byteCells_length]
          show _ + (Lib.decDigits X ++ [32]).toArray.size ≤ _
          rw [List.size_toArray, List.length_append, List.length_singleton]; omega) hB.size
        have h2 : Lib.byteCells (keyB (l.take j)) ++ Lib.strCells ⟨(Lib.decDigits X ++ [32]).toArray⟩ = Lib.byteCells (keyB (l.take (j + 1))) := by
          rw [Lib.strCells_eq, ← Lib.byteCells_append, HKEY.out]
        rw [h2] at h1
        exact h1
      clear hta hkey hxq hX hkl hdl x0 x1
      go_wp2_with (fail)
      refine (Tryd.strconv_Itoa_small X hX100 wr).mono ?_
      rintro e wr ⟨rfl, rfl⟩
      go_wp2_with (fail)
      refine (HWS.out).mono ?_
      rintro e w5 ⟨rfl, hF5, hb5⟩
      have HF5 := Lib.hid hF5
      have hB5 := hB.trans hb5
      clear hF5 hb5 HF hcell
      go_wp2
      exact ⟨⟨j + 1, rfl, by omega, HF5, hB5⟩, by simp [intOf]; omega⟩
    · have hjn' : decide ((j : Int) < (n : Int)) = false := decide_eq_false (by omega)
      have hfin : l.take j = l := List.take_of_length_le (by rw [HN.out]; omega)
      have hM2 := HM.out.below hB
      have HS := Lib.hid (Tryd.Builder_String_any_f w.heap.size w.heap.size (keyB l) wr.drew (by have := HF.out; rw [hfin] at this; exact this) hB.size)
      have c3 := hM2.t.cell 3
      simp only [List.getElem?_cons_zero, List.getElem?_cons_succ] at c3
      have HM2 := Lib.hid hM2
      clear hM2 hfin HF
      by_cases hin : l ∈ rows
      · have hres : SR = some (rows.idxOf l, rows) := HSR.out.symm.trans (if_pos hin)
        subst hres
        have HIN := Lib.hid hin
        clear hin
        go_wp2
        go_region_with (go_at_call 45; refine (HS.out).mono ?_; rintro e w5 ⟨rfl, hF5, hb5⟩; have hB5 := hB.drew.trans hb5; have hM5 := HM.out.below hB5; have HM5 := Lib.hid hM5; have c3' := hM5.t.cell 3; simp only [List.getElem?_cons_zero, List.getElem?_cons_succ] at c3'; have hrun := hM5.num.run_get l HL.out _ true (decide_eq_true HIN.out) (if_pos HIN.out); clear hM5 hF5 hb5)
        all_goals go_wp2
        all_goals go_ret
        all_goals exact ⟨rfl, _, _, HM5.out, Kq.of_below hB5, hB5.mono hβ, .inl rfl⟩
      · have hcz : (if l ∈ rows then rows.idxOf l else 0) = 0 := if_neg hin
        have hdz : decide (l ∈ rows) = false := decide_eq_false hin
        obtain ⟨rl, hrl⟩ : ∃ rl, rows.length = rl := ⟨_, rfl⟩
        have hr96 : rl ≤ 4096 := by rw [← hrl]; exact HM.out.num.2.1
        have HRL := Lib.hid hrl
        have HNI := Lib.hid hin
        have HCZ := Lib.hid hcz
        have HDZ := Lib.hid hdz
        obtain ⟨av, cv, hvr, hcv1, hcv2⟩ := owns_form HM.out.row
        rw [hrl] at hvr hcv1
        unfold maxLen at hcv2
        have HVR := Lib.hid hvr
        by_cases hroom : rl < 4096
        · have hres : SR = some (rl, rows ++ [l]) := by
            rw [← HSR.out]; unfold stateRes
            rw [if_neg hin, hrl, if_pos hroom]
          subst hres
          have hge : decide ((4096 : Int) ≤ (rl : Int)) = false := decide_eq_false (by omega)
          have hge2 : ¬ 4096 ≤ rl := by omega
          clear hin hcz hdz hrl hvr
          go_wp2
          go_region_with (go_at_call 45; refine (HS.out).mono ?_; rintro e w5 ⟨rfl, hF5, hb5⟩; have HF5 := Lib.hid hF5; have hB5 := hB.drew.trans hb5; have hM5 := HM.out.below hB5; have HM5 := Lib.hid hM5; have c3' := hM5.t.cell 3; have c4' := hM5.t.cell 4; simp only [List.getElem?_cons_zero, List.getElem?_cons_succ] at c3' c4'; rw [HVR.out] at c4'; have hrun := hM5.num.run_get l HL.out 0 false HDZ.out HCZ.out; clear hM5 hF5 hb5)
          all_goals go_wp2
          all_goals (have HS6 := Lib.hid (Tryd.Builder_String_any_f w.heap.size w.heap.size (keyB l) w5.drew HF5.out hB5.size))
          all_goals clear hrun
          all_goals go_region_with (go_at_call 45; refine (HS6.out).mono ?_; rintro e w6 ⟨rfl, hF6, hb6⟩; have hB6 := hB5.drew.trans hb6; have hM6 := HM.out.below hB6; have HM6 := Lib.hid hM6; have c3'' := hM6.t.cell 3; simp only [List.getElem?_cons_zero, List.getElem?_cons_succ] at c3''; obtain ⟨w7, hput, hS7, hg7⟩ := hM6.num.run_put l HL.out HNI.out (by rw [HRL.out]; exact hroom); rw [HRL.out] at hput; have HS7 := Lib.hid hS7; have HG7 := Lib.hid hg7; clear hM6 hF6 hb6 hS7 hg7)
          all_goals (
            have hv6 : AnyI β w6 (.slice a n cap) l := by have := HV.out; rw [HN.out] at this; exact this.below hβ hB6
            have hR6 := HM6.out.row
            have hR7 := hR6.kept HG7.out (.inr (ownBlock_ne_map hR6 HM6.out.num.obj))
            have hT7 := HM6.out.t.of_eq (HG7.out.block _ HM6.out.t.lt (fun e => HM6.out.t.ne_map HM6.out.num.obj (Option.some.inj e)))
            have hA : (w7.alloc (.cells #[.slice a n cap] 22)).ownsRow β 22 1 (.slice av rl cv) rl rvs := by
              have := hR7.alloc (.cells #[.slice a n cap] 22)
              rw [HVR.out, HRL.out] at this
              exact this
            have x4 := hT7.cell 4
            simp only [List.getElem?_cons_zero, List.getElem?_cons_succ] at x4
            rw [HVR.out] at x4
            have hAl : Below w7.heap.size w7 (w7.alloc (.cells #[.slice a n cap] 22)) := (Below.refl _ _).alloc (Nat.le_refl _) _
            have hβ7 : β ≤ w7.heap.size := Nat.le_trans (Nat.le_trans hβ hB6.size) HG7.out.size
            have HR7 := Lib.hid hR7
            have HT7 := Lib.hid hT7
            obtain ⟨i0, hi0, hz0, hz1, hz2⟩ := info_parts Tryd.info22
            clear hR6 hR7 hT7 c3 c3' c3'' c4' hput
            go_wp2_with (at_builtin; refine wpList_append_own_at _ rfl (.tmp 51) (.tmp 53) _ rfl β 22 i0 _ 1 24 Tryd.underlying36 hi0 hz0 hz1 hz2 rfl (by omega) (.slice av rl cv) rl rvs rfl hA ⟨w7.heap.size, 0, none⟩ 1 1 [.slice a n cap] rfl rfl ?c1 ?c2 ?c3 ?c4 ?c5 ?_)
            case c1 => exact cells_of_new _ _ rfl [.slice a n cap] 22
            case c2 => simp [Value.oneCell']
            case c3 => unfold maxLen; omega
            case c4 => omega
            case c5 => exact Nat.le_trans hβ7 (by simp)
            intro v' w9 hS9 g9 _ _
            obtain ⟨a9, c9, rfl, _, _⟩ := owns_form hS9
            have hadd := HM6.out.add (v := .slice a n cap) (l := l) (w7 := (w7.alloc (.cells #[.slice a n cap] 22))) (w8 := w9) (vr' := .slice a9 (rl + 1) c9) hv6 HG7.out HS7.out hAl (by rw [HVR.out]; exact g9) (by rw [HRL.out]; exact hS9)
            obtain ⟨k1, k2, k3, k4, k5⟩ := hadd
            rw [HVR.out] at k4
            have HK1 := Lib.hid k1
            have HK2 := Lib.hid ((Kq.of_below hB6).trans k2)
            have HK3 := Lib.hid ((hB6.mono hβ).trans k3)
            clear k1 k2 k3 hS9 g9 hA hv6 hAl x4
            go_wp2
            go_ret
            exact ⟨rfl, _, _, HK1.out, HK2.out, HK3.out, .inr rfl⟩)
        · have hres : SR = none := by
            rw [← HSR.out]; unfold stateRes
            rw [if_neg hin, hrl, if_neg hroom]
          subst hres
          have hge : (4096 : Int) ≤ (rl : Int) := by omega
          clear hin hcz hdz hrl hvr
          go_wp2
          go_region_with (go_at_call 45; refine (HS.out).mono ?_; rintro e w5 ⟨rfl, hF5, hb5⟩; have hB5 := hB.drew.trans hb5; have hM5 := HM.out.below hB5; have HM5 := Lib.hid hM5; have c3' := hM5.t.cell 3; have c4' := hM5.t.cell 4; simp only [List.getElem?_cons_zero, List.getElem?_cons_succ] at c3' c4'; rw [HVR.out] at c4'; have hrun := hM5.num.run_get l HL.out 0 false HDZ.out HCZ.out; clear hM5 hF5 hb5)
          all_goals go_wp2
          all_goals exact ⟨rfl, rfl, Kq.of_below hB5, hB5.mono hβ⟩
end Go.Proofs.YtelanndleinabaaDoor
