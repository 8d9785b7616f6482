/- A region that draws its order, each of whose operations yields the same value whatever came before (calls that leave S as it was among them): one way through. -/
import Derived.Deep.RegionHeld3
namespace Go.Proofs.Ytpednhcfkjjcpaa
open Go
set_option linter.unusedVariables false
set_option linter.unusedSectionVars false

section
variable {P : Program} {ops : Array Oper} {Q : Exit → Act → World → Prop} {S : World → Prop}

/-- The frame at hand is the last one but for what has not come up. -/
def Agree (ops : Array Oper) (listed : Array Bool) (a af : Act) : Prop :=
  a.defers = af.defers ∧ a.tmps.size = af.tmps.size ∧ ∀ s, (∀ j o, ops[j]? = some o → listed.getD j true = false → o.dst ≠ some s) → a.tmps[s]? = af.tmps[s]?
theorem Agree.rfl_ {listed : Array Bool} {a : Act} : Agree ops listed a a := ⟨rfl, rfl, fun _ _ => rfl⟩
theorem Agree.putr {listed : Array Bool} {a af : Act} (h : Agree ops listed a af) {j d : Nat} {o : Oper} (ho : ops[j]? = some o) (hj : listed.getD j true = false) (hd : o.dst = some d) (v : Value) : Agree ops listed a (af.put (some d) v) := by
  obtain ⟨h1, h2, h3⟩ := h
  refine ⟨h1, by simp [Act.put, h2], fun s hs => ?_⟩
  have hne : d ≠ s := fun e => hs j o ho hj (by rw [hd, e])
  rw [h3 s hs]
  simp [Act.put, Array.getElem?_setIfInBounds_ne hne]
/-- What an operation reads of the frame comes of operations that it waits for, or of none. -/
def readsOk (ops : Array Oper) (o : Oper) (s : Nat) : Bool :=
  (List.range ops.size).all fun j => match ops[j]? with
    | some oj => oj.dst != some s || o.after.any (fun e => Region.binds .any e && e.on == j)
    | none => true
theorem Agree.read {listed : Array Bool} {a af : Act} (h : Agree ops listed a af) {i : Nat} {o : Oper} (ho : ops[i]? = some o) (hr : i ∈ Region.ready .any ops listed) {s : Nat} (hs : readsOk ops o s = true) : a.eval (.tmp s) = af.eval (.tmp s) := by
  have : a.tmps[s]? = af.tmps[s]? := by
    refine h.2.2 s fun j oj hoj hj hd => ?_
    unfold readsOk at hs
    rw [List.all_eq_true] at hs
    have hlt : j < ops.size := (Array.getElem?_eq_some_iff.1 hoj).1
    have h1 := hs j (List.mem_range.2 hlt)
    rw [hoj] at h1
    simp only [hd, bne_self_eq_false, Bool.false_or] at h1
    obtain ⟨e, he, hb⟩ := Array.any_eq_true'.1 h1
    rw [Bool.and_eq_true, beq_iff_eq] at hb
    obtain ⟨_, o', ho', hall⟩ := mem_ready.1 hr
    rw [ho] at ho'
    injection ho' with ho'
    subst ho'
    have h2 := hall e he hb.1
    rw [hb.2] at h2
    rcases Nat.lt_or_ge j listed.size with h' | h'
    · simp [h'] at hj h2; rw [hj] at h2; cases h2
    · simp [Array.getElem?_eq_none h'] at h2
  simp only [Act.eval, Array.getD_eq_getD_getElem?, this]
/-- An operation that yields the same value whatever came before. -/
structure CalmAt (P : Program) (ops : Array Oper) (Q : Exit → Act → World → Prop) (S : World → Prop) (af : Act) (i : Nat) : Prop where
  intro ::
  calm : ∃ (o : Oper) (v : Value) (slots : List Nat), ops[i]? = some o ∧ o.guard = none ∧ slots.all (readsOk ops o) = true ∧ (∀ d, o.dst = some d → d < af.tmps.size → af.tmps[d]? = some v) ∧
    ∀ (a : Act) (w : World) (K : Act → World → Prop), (∀ s ∈ slots, a.eval (.tmp s) = af.eval (.tmp s)) → S w → (∀ w', S w' → K (a.put o.dst v) w') → o.wp P a w K Q
/-- Each operation waits for earlier ones alone, as far as it waits at all. -/
def ordered (ops : Array Oper) : Bool := (List.range ops.size).all fun i => match ops[i]? with
  | some o => o.after.all fun e => !Region.binds .any e || decide (e.on < i)
  | none => true
theorem ready_nil {listed : Array Bool} (hs : listed.size = ops.size) (ho : ordered ops = true) (hr : Region.ready .any ops listed = []) : ∀ j, j < ops.size → listed.getD j false = true := by
  intro j
  induction j using Nat.strongRecOn with
  | ind j ih =>
    intro hj
    cases hl : listed.getD j false with
    | true => rfl
    | false =>
      exfalso
      have hm : j ∈ Region.ready .any ops listed := by
        refine mem_ready.2 ⟨?_, ops[j], Array.getElem?_eq_getElem hj, fun e he hb => ?_⟩
        · have hj' : j < listed.size := by omega
          simp [hj'] at hl ⊢; exact hl
        · unfold ordered at ho
          rw [List.all_eq_true] at ho
          have h1 := ho j (List.mem_range.2 hj)
          rw [Array.getElem?_eq_getElem hj] at h1
          have h2 := Array.all_eq_true_iff_forall_mem.1 h1 e he
          have h3 : e.on < j := by simpa [hb] using h2
          exact ih e.on h3 (by omega)
      rw [hr] at hm
      cases hm
theorem wpAny_calm {af : Act} (ho : ordered ops = true) (hops : ∀ i, i < ops.size → CalmAt P ops Q S af i) (hend : ∀ w', S w' → Q .normal af w') :
    ∀ (fuel : Nat) (listed : Array Bool) (a : Act) (w : World), listed.size = ops.size → listed.toList.countP (· == false) ≤ fuel → Agree ops listed a af → S w → wpAny P .any ops Q fuel listed a w := by
  have key : ∀ (listed : Array Bool) (a : Act) (w : World), listed.size = ops.size → Agree ops listed a af → S w → Region.ready .any ops listed = [] → Q .normal a w := by
    intro listed a w hs hA hS hr
    have hall := ready_nil hs ho hr
    have ha : a = af := by
      obtain ⟨h1, h2, h3⟩ := hA
      have ht : a.tmps = af.tmps := by
        apply Array.ext_getElem?
        intro s
        refine h3 s fun j o hoj hj => ?_
        have hlt : j < ops.size := (Array.getElem?_eq_some_iff.1 hoj).1
        have h4 := hall j hlt
        have hj' : j < listed.size := by omega
        simp [hj'] at hj h4
        rw [hj] at h4; cases h4
      cases a; cases af
      simp only at h1 ht
      rw [h1, ht]
    rw [ha]
    exact hend w hS
  intro fuel
  induction fuel with
  | zero =>
    intro listed a w hs hc hA hS
    have hr : Region.ready .any ops listed = [] := by
      cases h : Region.ready .any ops listed with
      | nil => rfl
      | cons j l =>
        exfalso
        obtain ⟨h0, o, hoj, _⟩ := mem_ready.1 (show j ∈ Region.ready .any ops listed by rw [h]; simp)
        have hlt : j < listed.size := by rw [hs]; exact (Array.getElem?_eq_some_iff.1 hoj).1
        simp [hlt] at h0
        have := List.countP_pos_iff (p := (· == false)) (l := listed.toList) |>.2 ⟨false, by rw [← h0]; simp, rfl⟩
        omega
    exact ⟨hr, key listed a w hs hA hS hr⟩
  | succ fuel ih =>
    intro listed a w hs hc hA hS
    refine ⟨fun hr => key listed a w hs hA hS hr, fun i hi => ?_⟩
    obtain ⟨h0, o, hoi, _⟩ := mem_ready.1 hi
    have hlt : i < ops.size := (Array.getElem?_eq_some_iff.1 hoi).1
    obtain ⟨o', v, slots, ho', hg, hsl, hv, hw⟩ := (hops i hlt).calm
    rw [hoi] at ho'
    injection ho' with ho'
    subst ho'
    have hA' : Agree ops (listed.setIfInBounds i true) (a.put o.dst v) af := by
      obtain ⟨h1, h2, h3⟩ := hA
      cases hd : o.dst with
      | none =>
        refine ⟨h1, h2, fun s hs' => h3 s fun j oj hoj hj hdj => ?_⟩
        by_cases hji : j = i
        · subst hji
          rw [hoi] at hoj
          injection hoj with hoj
          subst hoj
          rw [hd] at hdj; cases hdj
        · exact hs' j oj hoj (by rw [getD_set_ne true (Ne.symm hji)]; exact hj) hdj
      | some d =>
        refine ⟨h1, by simp [Act.put, h2], fun s hs' => ?_⟩
        by_cases hds : d = s
        · subst hds
          by_cases hdl : d < af.tmps.size
          · rw [hv d hd hdl]
            simp [Act.put, h2, hdl]
          · rw [Array.getElem?_eq_none (by simp only [Act.put, Array.size_setIfInBounds, h2]; exact Nat.not_lt.1 hdl), Array.getElem?_eq_none (Nat.not_lt.1 hdl)]
        · have : (a.put (some d) v).tmps[s]? = a.tmps[s]? := by simp [Act.put, Array.getElem?_setIfInBounds_ne hds]
          rw [this]
          refine h3 s fun j oj hoj hj hdj => ?_
          by_cases hji : j = i
          · subst hji
            rw [hoi] at hoj
            injection hoj with hoj
            subst hoj
            rw [hd] at hdj
            injection hdj with hdj
            exact hds hdj
          · exact hs' j oj hoj (by rw [getD_set_ne true (Ne.symm hji)]; exact hj) hdj
    unfold wpOp
    rw [hoi]
    simp only
    rw [if_pos (by unfold Region.wanted; rw [hg])]
    refine .inl (hw a w _ (fun s hs' => hA.read hoi hi (List.all_eq_true.1 hsl s hs')) hS fun w' hS' => ih _ _ w' (by simpa using hs) ?_ hA' hS')
    have hl' : i < listed.toList.length := by simp; omega
    have hl0 : listed.toList[i] = false := by
      have hlt' : i < listed.size := by omega
      simp [hlt'] at h0
      simpa using h0
    rw [Array.toList_setIfInBounds, List.countP_set hl']
    have := List.countP_pos_iff (p := (· == false)) (l := listed.toList) |>.2 ⟨false, by rw [← hl0]; exact List.getElem_mem hl', rfl⟩
    rw [hl0]
    show _ - (if (false == false) = true then 1 else 0) + (if (true == false) = true then 1 else 0) ≤ fuel
    rw [if_pos (show (false == false) = true from rfl), if_neg (show ¬ (true == false) = true by decide)]
    omega
/-- One way through the region. -/
theorem wp_region_calm {id : Nat} {a af : Act} {w : World} (S : World → Prop) (hm : P.follows .mixedOrders = true) (ho : ordered ops = true) (hA : Agree ops (Array.replicate ops.size false) a af) (hS : S w.drew)
    (hops : ∀ i, i < ops.size → CalmAt P ops Q S af i) (hend : ∀ w', S w' → Q .normal af w') : (Code.region id ops true).wp P Q a w :=
  wp_region_any hm (wpAny_calm ho hops hend _ _ a _ (by simp) (Nat.le_trans List.countP_le_length (by simp)) hA hS)
/-- The values that a region's operations yield: of each the operation's number, its slot, the value. -/
abbrev Puts := List (Nat × Nat × Value)
def puts : Puts → Act → Act
  | [], a => a
  | p :: r, a => puts r (a.put (some p.2.1) p.2.2)
theorem puts_size : ∀ (ps : Puts) (a : Act), (puts ps a).tmps.size = a.tmps.size
  | [], a => rfl
  | p :: r, a => by rw [puts, puts_size r]; simp [Act.put]
theorem puts_ne : ∀ (ps : Puts) (a : Act) {s : Nat}, (∀ p ∈ ps, p.2.1 ≠ s) → (puts ps a).tmps[s]? = a.tmps[s]?
  | [], a, s, h => rfl
  | p :: r, a, s, h => by
    rw [puts, puts_ne r _ fun q hq => h q (List.mem_cons_of_mem _ hq)]
    simp [Act.put, Array.getElem?_setIfInBounds_ne (h p (List.mem_cons_self ..))]
theorem puts_get : ∀ (ps : Puts) (a : Act) {k j s : Nat} {v : Value}, (ps.map (·.2.1)).Nodup → ps[k]? = some (j, s, v) → s < a.tmps.size → (puts ps a).tmps[s]? = some v
  | [], a, k, j, s, v, hn, h, hs => by simp at h
  | p :: r, a, 0, j, s, v, hn, h, hs => by
    simp only [List.getElem?_cons_zero, Option.some.injEq] at h
    subst h
    rw [List.map_cons, List.nodup_cons] at hn
    rw [puts, puts_ne r _ fun q hq e => hn.1 (List.mem_map.2 ⟨q, hq, e⟩)]
    simp [Act.put, hs]
  | p :: r, a, k + 1, j, s, v, hn, h, hs => by
    rw [List.map_cons, List.nodup_cons] at hn
    rw [puts]
    exact puts_get r _ hn.2 (by simpa using h) (by simpa [Act.put] using hs)
theorem Agree.puts {listed : Array Bool} {a : Act} : ∀ (ps : Puts) {af : Act}, Agree ops listed a af → (∀ p ∈ ps, listed.getD p.1 true = false ∧ (ops[p.1]?).bind (·.dst) = some p.2.1) → Agree ops listed a (Go.Proofs.Ytpednhcfkjjcpaa.puts ps af)
  | [], af, h, hp => h
  | p :: r, af, h, hp => by
    obtain ⟨h1, h2⟩ := hp p (List.mem_cons_self ..)
    cases ho : ops[p.1]? with
    | none => rw [ho] at h2; cases h2
    | some o =>
      rw [ho] at h2
      exact Agree.puts r (h.putr ho h1 h2 p.2.2) fun q hq => hp q (List.mem_cons_of_mem _ hq)
/-- What stands in the region's frames. -/
def putsOk (ops : Array Oper) (n : Nat) (ps : List (Nat × Nat)) : Bool :=
  decide (ps.map (·.2)).Nodup && ps.all (fun p => (ops[p.1]?).bind (·.dst) == some p.2 && decide (p.2 < n))
structure CalmOp (P : Program) (ops : Array Oper) (Q : Exit → Act → World → Prop) (S : World → Prop) (a : Act) (n : Nat) (ps : Puts) (i : Nat) : Prop where
  intro ::
  calm : ∃ (o : Oper) (k d : Nat) (v : Value), ops[i]? = some o ∧ o.guard = none ∧ o.dst = some d ∧ ps[k]? = some (i, d, v) ∧
    ∀ (b : Act) (w : World) (K : Act → World → Prop), (∀ (k j s : Nat) (v : Value), ps[k]? = some (j, s, v) → readsOk ops o s = true → b.eval (.tmp s) = v) → (∀ s : Nat, s < n → readsOk ops o s = true → (ps.map (·.2.1)).contains s = false → b.eval (.tmp s) = a.eval (.tmp s)) → S w → (∀ w', S w' → K (b.put o.dst v) w') → o.wp P b w K Q
theorem wp_region_puts {id : Nat} {a : Act} {w : World} (S : World → Prop) (ps : Puts) (n : Nat) (hn : a.tmps.size = n) (hm : P.follows .mixedOrders = true) (ho : ordered ops = true) (hps : putsOk ops n (ps.map fun p => (p.1, p.2.1)) = true) (hS : S w.drew)
    (hops : ∀ i, i < ops.size → CalmOp P ops Q S a n ps i) (hend : ∀ w', S w' → Q .normal (puts ps a) w') : (Code.region id ops true).wp P Q a w := by
  unfold putsOk at hps
  rw [Bool.and_eq_true, decide_eq_true_eq, List.map_map] at hps
  obtain ⟨hnd, hall⟩ := hps
  have hnd' : (ps.map (·.2.1)).Nodup := hnd
  rw [List.all_eq_true] at hall
  have hmem : ∀ p ∈ ps, (ops[p.1]?).bind (·.dst) = some p.2.1 ∧ p.2.1 < n := fun p hp => by
    have := hall (p.1, p.2.1) (List.mem_map.2 ⟨p, hp, rfl⟩)
    simpa using this
  refine wp_region_calm (af := puts ps a) S hm ho (Agree.puts ps Agree.rfl_ fun p hp => ⟨?_, (hmem p hp).1⟩) hS (fun i hi => ?_) hend
  · have h1 := (hmem p hp).1
    have : p.1 < ops.size := by
      cases ho' : ops[p.1]? with
      | none => rw [ho'] at h1; cases h1
      | some o => exact (Array.getElem?_eq_some_iff.1 ho').1
    simp [this]
  · obtain ⟨o, k, d, v, h1, h2, h3, h4, h5⟩ := (hops i hi).calm
    have hget : ∀ {k j s v}, ps[k]? = some (j, s, v) → (puts ps a).tmps[s]? = some v := fun {k j s v} h => puts_get ps a hnd' h (by rw [hn]; exact (hmem _ (List.mem_of_getElem? h)).2)
    refine ⟨o, v, (List.range n).filter (readsOk ops o), h1, h2, by rw [List.all_eq_true]; intro s hs; exact (List.mem_filter.1 hs).2, fun d' hd _ => ?_, fun b w K hr hSw hK => ?_⟩
    · rw [h3] at hd
      injection hd with hd
      subst hd
      exact hget h4
    · refine h5 b w K (fun k j s v hk hro => ?_) (fun s hs hro hns => ?_) hSw hK
      · have hs : s < n := (hmem _ (List.mem_of_getElem? hk)).2
        rw [hr s (List.mem_filter.2 ⟨List.mem_range.2 hs, hro⟩)]
        simp only [Act.eval, Array.getD_eq_getD_getElem?, hget hk, Option.getD_some]
      · rw [hr s (List.mem_filter.2 ⟨List.mem_range.2 hs, hro⟩)]
        simp only [Act.eval, Array.getD_eq_getD_getElem?]
        rw [puts_ne ps a fun p hp e => ?_]
        have : (ps.map (·.2.1)).contains s = true := by rw [List.contains_iff_mem]; exact List.mem_map.2 ⟨p, hp, e⟩
        rw [this] at hns; cases hns
theorem CalmOp.pure {a : Act} {n : Nat} {ps : Puts} {i : Nat} {o : Oper} (k d : Nat) (v : Value) (hi : ops[i]? = some o) (hg : o.guard = none) (hd : o.dst = some d) (hk : ps[k]? = some (i, d, v))
    (h : ∀ (b : Act) (w : World), (∀ (k j s : Nat) (v : Value), ps[k]? = some (j, s, v) → readsOk ops o s = true → b.eval (.tmp s) = v) → (∀ s : Nat, s < n → readsOk ops o s = true → (ps.map (·.2.1)).contains s = false → b.eval (.tmp s) = a.eval (.tmp s)) → S w → (execOp b.eval o).run P w = .ok (.value v) w) : CalmOp P ops Q S a n ps i :=
  ⟨o, k, d, v, hi, hg, hd, hk, fun b w K hR hB hS hK => by unfold Oper.wp; rw [h b w hR hB hS]; exact hK w hS⟩
theorem CalmOp.call {a : Act} {n : Nat} {ps : Puts} {i : Nat} {o : Oper} (k d : Nat) (v : Value) {f : Nat} (args : Array Value) (hi : ops[i]? = some o) (hg : o.guard = none) (hd : o.dst = some d) (hk : ps[k]? = some (i, d, v))
    (h : ∀ (b : Act) (w : World), (∀ (k j s : Nat) (v : Value), ps[k]? = some (j, s, v) → readsOk ops o s = true → b.eval (.tmp s) = v) → (∀ s : Nat, s < n → readsOk ops o s = true → (ps.map (·.2.1)).contains s = false → b.eval (.tmp s) = a.eval (.tmp s)) → S w → (execOp b.eval o).run P w = .ok (.enter f args) w)
    (hc : ∀ w, S w → Calls P f args w fun e w' => e = .returned v ∧ S w') : CalmOp P ops Q S a n ps i :=
  ⟨o, k, d, v, hi, hg, hd, hk, fun b w K hR hB hS hK => by
    unfold Oper.wp
    rw [h b w hR hB hS]
    refine (hc w hS).mono fun e w' hq => ?_
    obtain ⟨rfl, hS'⟩ := hq
    exact hK w' hS'⟩
end
end Go.Proofs.Ytpednhcfkjjcpaa
