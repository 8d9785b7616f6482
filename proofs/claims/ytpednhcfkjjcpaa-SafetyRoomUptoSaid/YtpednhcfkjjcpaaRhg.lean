/- Regions that draw their order, with guarded operations whose guards let them run. -/
import Derived.Test.YtpednhcfkjjcpaaMg2
namespace Go.Proofs.Ytpednhcfkjjcpaa
open Go
set_option linter.unusedVariables false
set_option linter.unusedSectionVars false

section
variable {P : Program} {ops : Array Oper} {Q : Exit → Act → World → Prop} {Inv : Array Bool → Act → World → Prop}
theorem wpAny_invG (ho : ordered ops = true) (hg : ∀ (L : Array Bool) (i : Nat) (o : Oper) (a : Act) (w : World), L.size = ops.size → ops[i]? = some o → (∀ e ∈ o.after, Region.binds .any e = true → L.getD e.on false = true) → Inv L a w → Region.wanted o (yielded ops a.tmps) = true)
    (hstep : ∀ (L : Array Bool) (i : Nat) (o : Oper) (a : Act) (w : World) (K : Act → World → Prop), L.size = ops.size → ops[i]? = some o → L.getD i true = false → (∀ e ∈ o.after, Region.binds .any e = true → L.getD e.on false = true) → Inv L a w → (∀ a' w', Inv (L.setIfInBounds i true) a' w' → K a' w') → o.wp P a w K Q)
    (hend : ∀ (L : Array Bool) (a : Act) (w : World), L.size = ops.size → (∀ j, j < ops.size → L.getD j false = true) → Inv L a w → Q .normal a w) :
    ∀ (fuel : Nat) (L : Array Bool) (a : Act) (w : World), L.size = ops.size → L.toList.countP (· == false) ≤ fuel → Inv L a w → wpAny P .any ops Q fuel L a w := by
  have key : ∀ (L : Array Bool) (a : Act) (w : World), L.size = ops.size → Inv L a w → Region.ready .any ops L = [] → Q .normal a w :=
    fun L a w hs hI hr => hend L a w hs (ready_nil hs ho hr) hI
  intro fuel
  induction fuel with
  | zero =>
    intro L a w hs hc hI
    have hr : Region.ready .any ops L = [] := by
      cases h : Region.ready .any ops L with
      | nil => rfl
      | cons j l =>
        exfalso
        obtain ⟨h0, o, hoj, _⟩ := mem_ready.1 (show j ∈ Region.ready .any ops L by rw [h]; simp)
        have hlt : j < L.size := by rw [hs]; exact (Array.getElem?_eq_some_iff.1 hoj).1
        simp [hlt] at h0
        have := List.countP_pos_iff (p := (· == false)) (l := L.toList) |>.2 ⟨false, by rw [← h0]; simp, rfl⟩
        omega
    exact ⟨hr, key L a w hs hI hr⟩
  | succ fuel ih =>
    intro L a w hs hc hI
    refine ⟨fun hr => key L a w hs hI hr, fun i hi => ?_⟩
    obtain ⟨h0, o, hoi, hall⟩ := mem_ready.1 hi
    have hlt : i < L.size := by rw [hs]; exact (Array.getElem?_eq_some_iff.1 hoi).1
    have hgo := hg L i o a w hs hoi hall hI
    unfold wpOp
    rw [hoi]
    simp only
    rw [if_pos hgo]
    refine .inl (hstep L i o a w _ hs hoi (by simpa [hlt] using h0) (fun e he hb => ?_) hI fun a' w' hI' => ih _ a' w' (by simpa using hs) ?_ hI')
    · exact hall e he hb
    · have hl' : i < L.toList.length := by simp; omega
      have hl0 : L.toList[i] = false := by
        simp [hlt] at h0
        simpa using h0
      rw [Array.toList_setIfInBounds, List.countP_set hl']
      have := List.countP_pos_iff (p := (· == false)) (l := L.toList) |>.2 ⟨false, by rw [← hl0]; exact List.getElem_mem hl', rfl⟩
      rw [hl0]
      show _ - (if (false == false) = true then 1 else 0) + (if (true == false) = true then 1 else 0) ≤ fuel
      rw [if_pos (show (false == false) = true from rfl), if_neg (show ¬ (true == false) = true by decide)]
      omega
theorem wp_region_invG {id : Nat} {a : Act} {w : World} (Inv : Array Bool → Act → World → Prop) (hm : P.follows .mixedOrders = true) (ho : ordered ops = true) (hg : ∀ (L : Array Bool) (i : Nat) (o : Oper) (a : Act) (w : World), L.size = ops.size → ops[i]? = some o → (∀ e ∈ o.after, Region.binds .any e = true → L.getD e.on false = true) → Inv L a w → Region.wanted o (yielded ops a.tmps) = true) (h0 : Inv (Array.replicate ops.size false) a w.drew)
    (hstep : ∀ (L : Array Bool) (i : Nat) (o : Oper) (a : Act) (w : World) (K : Act → World → Prop), L.size = ops.size → ops[i]? = some o → L.getD i true = false → (∀ e ∈ o.after, Region.binds .any e = true → L.getD e.on false = true) → Inv L a w → (∀ a' w', Inv (L.setIfInBounds i true) a' w' → K a' w') → o.wp P a w K Q)
    (hend : ∀ (L : Array Bool) (a : Act) (w : World), L.size = ops.size → (∀ j, j < ops.size → L.getD j false = true) → Inv L a w → Q .normal a w) : (Code.region id ops true).wp P Q a w :=
  wp_region_any hm (wpAny_invG ho hg hstep hend _ _ a _ (by simp) (Nat.le_trans List.countP_le_length (by simp)) h0)
end
/-- Each operation's slot; each slot once; each guard among gl. -/
def slOkG (ops : Array Oper) (n : Nat) (sl : List (Nat × Nat)) (gl : List (Nat × Bool)) : Bool :=
  decide (sl.map (·.1)).Nodup && decide (sl.map (·.2)).Nodup && sl.all (fun p => (ops[p.1]?).bind (·.dst) == some p.2 && decide (p.2 < n)) &&
  (List.range ops.size).all fun i => match ops[i]? with
    | some o => (match o.guard with
      | none => true
      | some (g, b) => gl.contains (g, b) && (sl.map (·.1)).contains g && o.after.any fun e => Region.binds .any e && e.on == g) && (o.dst.isNone || (sl.map (·.1)).contains i)
    | none => true
section
variable {P : Program} {ops : Array Oper} {Q : Exit → Act → World → Prop} {R : Type} {val : R → Nat → Value} {Wv : R → Array Bool → World → Prop} {a : Act} {n : Nat} {sl : List (Nat × Nat)}
theorem wp_region_rhoG {id : Nat} {w : World} (val : R → Nat → Value) (Wv : R → Array Bool → World → Prop) (sl : List (Nat × Nat)) (n : Nat) (hn : a.tmps.size = n) (hm : P.follows .mixedOrders = true) (ho : ordered ops = true) (gl : List (Nat × Bool)) (hsl : slOkG ops n sl gl = true) (hgv : ∀ r, ∀ p ∈ gl, val r p.1 = .bool p.2)
    (r0 : R) (h0 : Wv r0 (Array.replicate ops.size false) w.drew) (hops : ∀ i, i < ops.size → RhoOp P ops Q val Wv a n sl i)
    (hend : ∀ r w', Wv r (Array.replicate ops.size true) w' → Q .normal (puts (sl.map fun p => (p.1, p.2, val r p.1)) a) w') : (Code.region id ops true).wp P Q a w := by
  unfold slOkG at hsl
  simp only [Bool.and_eq_true, decide_eq_true_eq] at hsl
  obtain ⟨⟨⟨hn1, hn2⟩, hall⟩, hcov⟩ := hsl
  rw [List.all_eq_true] at hall hcov
  have hmem : ∀ p ∈ sl, (ops[p.1]?).bind (·.dst) = some p.2 ∧ p.2 < n := fun p hp => by simpa using hall p hp
  have hgd : ∀ (i : Nat) (o : Oper), ops[i]? = some o → (o.guard = none ∨ ∃ g b, o.guard = some (g, b) ∧ (g, b) ∈ gl ∧ (∃ s, (g, s) ∈ sl) ∧ ∃ e ∈ o.after, Region.binds .any e = true ∧ e.on = g) ∧ (o.dst = none ∨ ∃ s, (i, s) ∈ sl) := fun i o h => by
    have h1 := hcov i (List.mem_range.2 (Array.getElem?_eq_some_iff.1 h).1)
    rw [h] at h1
    simp only [Bool.and_eq_true, Bool.or_eq_true, Option.isNone_iff_eq_none] at h1
    refine ⟨?_, h1.2.imp (fun h => h) fun h => ?_⟩
    · cases hgu : o.guard with
      | none => exact .inl rfl
      | some p =>
        obtain ⟨g, b⟩ := p
        have h2 := h1.1
        rw [hgu] at h2
        simp only [Bool.and_eq_true] at h2
        obtain ⟨⟨h3, h4⟩, h5⟩ := h2
        rw [List.contains_iff_mem] at h3 h4
        obtain ⟨q, hq, he⟩ := List.mem_map.1 h4
        obtain ⟨e, he1, he2⟩ := Array.any_eq_true'.1 h5
        rw [Bool.and_eq_true, beq_iff_eq] at he2
        exact .inr ⟨g, b, rfl, h3, ⟨q.2, by rw [← he]; exact hq⟩, e, he1, he2.1, he2.2⟩
    · rw [List.contains_iff_mem] at h
      obtain ⟨p, hp, he⟩ := List.mem_map.1 h
      exact ⟨p.2, by rw [← he]; exact hp⟩
  refine wp_region_invG (fun L b w => ∃ r, RhoA val sl a r L b ∧ Wv r L w) hm ho (fun L i o b w hs hoi hdep hI => ?_) ⟨r0, ⟨rfl, rfl, fun p hp h => ?_, fun y _ => rfl⟩, h0⟩ ?_ ?_
  · obtain ⟨r, hA, _⟩ := hI
    rcases (hgd i o hoi).1 with h | ⟨g, b', h, hgl, ⟨s, hs'⟩, e, he1, he2, he3⟩
    · unfold Region.wanted; rw [h]
    · have h2 := hA.slots _ hs' (by rw [← he3]; exact hdep e he1 he2)
      have h3 := (hmem _ hs').1
      have h4 := hgv r _ hgl
      dsimp only at h2 h3 h4
      unfold Region.wanted
      rw [h]
      simp only
      unfold yielded
      rw [h3]
      simp only [Option.bind_some]
      rw [h2, h4]
      simp
  · exfalso
    simp only [Array.getD_eq_getD_getElem?, Array.getElem?_replicate] at h
    split at h <;> simp at h
  · intro L i o b w K hs hoi hli hdep ⟨r, hA, hW⟩ hK
    have hi : i < ops.size := (Array.getElem?_eq_some_iff.1 hoi).1
    obtain ⟨o', ho', hst⟩ := (hops i hi).step
    rw [hoi] at ho'
    injection ho' with ho'
    subst ho'
    have hget : ∀ {s : Nat} {v : Value}, b.tmps[s]? = some v → b.eval (.tmp s) = v := fun h => by simp only [Act.eval, Array.getD_eq_getD_getElem?, h, Option.getD_some]
    have hdone : ∀ {j s : Nat}, (j, s) ∈ sl → readsOk ops o s = true → L.getD j false = true := fun {j s} hp hr => by
      have h1 := (hmem _ hp).1
      unfold readsOk at hr
      rw [List.all_eq_true] at hr
      cases hoj : ops[j]? with
      | none => simp [hoj] at h1
      | some oj =>
        have h2 := hr j (List.mem_range.2 (Array.getElem?_eq_some_iff.1 hoj).1)
        simp only [hoj, Option.bind_some] at h1
        rw [hoj] at h2
        simp only [h1, bne_self_eq_false, Bool.false_or] at h2
        obtain ⟨e, he, hb⟩ := Array.any_eq_true'.1 h2
        rw [Bool.and_eq_true, beq_iff_eq] at hb
        rw [← hb.2]
        exact hdep e he hb.1
    refine hst r L b w K hs (by rw [gd_flip (by omega)]; exact hli) ⟨fun {j s} hp hr => hget (hA.slots _ hp (hdone hp hr)), hdone, fun {s} hs' hc => ?_, hdep⟩ hW fun r' w' hv hW' => hK _ _ ⟨r', ⟨?_, ?_, ?_, ?_⟩, hW'⟩
    · have : b.tmps[s]? = a.tmps[s]? := hA.keep s fun p hp e => by
        have : (sl.map (·.2)).contains s = true := by rw [List.contains_iff_mem]; exact List.mem_map.2 ⟨p, hp, e⟩
        rw [this] at hc; cases hc
      simp only [Act.eval, Array.getD_eq_getD_getElem?, this]
    · cases hd : o.dst <;> exact hA.defs
    · cases hd : o.dst with
      | none => exact hA.size
      | some d => simp [Act.put, hA.size]
    · intro p hp hl
      by_cases hpi : p.1 = i
      · have h1 := (hmem p hp).1
        rw [hpi, hoi] at h1
        simp only [Option.bind_some] at h1
        rw [h1, hpi]
        have : p.2 < b.tmps.size := by rw [hA.size, hn]; exact (hmem p hp).2
        simp [Act.put, this]
      · rw [gd_ne hpi] at hl
        rw [hv _ hl, ← hA.slots p hp hl]
        rcases (hgd i o hoi).2 with hd | ⟨d, hd⟩
        · rw [hd]; rfl
        · have h1 := (hmem _ hd).1
          rw [hoi] at h1
          simp only [Option.bind_some] at h1
          rw [h1]
          have hne : d ≠ p.2 := fun e => by
            obtain ⟨k1, hk1⟩ := List.mem_iff_getElem?.1 hp
            obtain ⟨k2, hk2⟩ := List.mem_iff_getElem?.1 hd
            have e1 : (sl.map (·.2))[k1]? = some p.2 := by rw [List.getElem?_map, hk1]; rfl
            have e2 : (sl.map (·.2))[k2]? = some p.2 := by rw [List.getElem?_map, hk2, ← e]; rfl
            have := (List.getElem?_inj ((List.getElem?_eq_some_iff.1 e1).1) hn2).1 (e1.trans e2.symm)
            rw [this, hk2] at hk1
            injection hk1 with hk1
            exact hpi (by rw [← hk1])
          simp [Act.put, Array.getElem?_setIfInBounds_ne hne]
    · intro y hy
      rw [← hA.keep y hy]
      rcases (hgd i o hoi).2 with hd | ⟨d, hd⟩
      · rw [hd]; rfl
      · have h1 := (hmem _ hd).1
        rw [hoi] at h1
        simp only [Option.bind_some] at h1
        rw [h1]
        simp [Act.put, Array.getElem?_setIfInBounds_ne (hy _ hd)]
  · intro L b w hs hall ⟨r, hA, hW⟩
    have hL : L = Array.replicate ops.size true := by
      apply Array.ext
      · simp [hs]
      · intro j h1 h2
        have := hall j (by omega)
        simp [h1] at this
        simp [this]
    rw [hL] at hW
    have hb : b = puts (sl.map fun p => (p.1, p.2, val r p.1)) a := by
      have hd : ∀ (ps : Puts) (c : Act), (puts ps c).defers = c.defers := by
        intro ps
        induction ps with
        | nil => intro c; rfl
        | cons p q ih => intro c; rw [puts, ih]; rfl
      have hmap : (sl.map fun p => (p.1, p.2, val r p.1)).map (·.2.1) = sl.map (·.2) := by rw [List.map_map]; rfl
      have ht : b.tmps = (puts (sl.map fun p => (p.1, p.2, val r p.1)) a).tmps := by
        apply Array.ext_getElem?
        intro y
        by_cases hy : ∃ p ∈ sl, p.2 = y
        · obtain ⟨p, hp, rfl⟩ := hy
          obtain ⟨k, hk⟩ := List.mem_iff_getElem?.1 hp
          have hpl : p.1 < ops.size := by
            have h1 := (hmem p hp).1
            cases ho' : ops[p.1]? with
            | none => simp [ho'] at h1
            | some o => exact (Array.getElem?_eq_some_iff.1 ho').1
          rw [hA.slots p hp (hall _ hpl)]
          exact (puts_get _ a (k := k) (j := p.1) (by rw [hmap]; exact hn2) (by rw [List.getElem?_map, hk]; rfl) (by rw [hn]; exact (hmem p hp).2)).symm
        · have hy' : ∀ p ∈ sl, p.2 ≠ y := fun p hp e => hy ⟨p, hp, e⟩
          rw [hA.keep y hy']
          refine (puts_ne _ a fun q hq e => ?_).symm
          obtain ⟨p, hp, rfl⟩ := List.mem_map.1 hq
          exact hy' p hp e
      have h1 := hA.defs
      have h2 := hd (sl.map fun p => (p.1, p.2, val r p.1)) a
      cases b
      cases hq : puts (sl.map fun p => (p.1, p.2, val r p.1)) a
      rw [hq] at ht h2
      simp only at ht h1 h2
      rw [ht, h1, ← h2]
    rw [hb]
    exact hend r w hW
end
end Go.Proofs.Ytpednhcfkjjcpaa
