/- Systems of any kind: what their methods tell, exploring them, plain; the numbers of the states that are met, as a map. -/
import Derived.Test.YtpednhcfkjjcpaaIter
import Derived.Test.YtpednhcfkjjcpaaMg3
namespace Go.Proofs.Ytpednhcfkjjcpaa.G
open Go.RowKit Go.Maps
set_option linter.unusedVariables false
set_option linter.unusedSimpArgs false

instance : LawfulBEq ByteArray where
  eq_of_beq := fun {a b} h => by
    cases a; cases b
    have h2 := (beq_iff_eq (α := Array UInt8)).1 h
    exact congrArg ByteArray.mk h2
  rfl := fun {a} => by
    cases a
    exact (beq_iff_eq (α := Array UInt8)).2 rfl
/-- A move, its rows apart. -/
structure PMove where
  proc : Int
  edge : Int
  wth : Int
  wthE : Int
  dst : ByteArray
  bad : Int
  reads : List Int
  writes : List Int
  turns : Nat
def mvC (m : PMove) (vr vw : Value) : List Value := [.int .i64 m.proc, .int .i64 m.edge, .int .i64 m.wth, .int .i64 m.wthE, .string m.dst, .int .i64 m.bad, vr, vw, .int .u64 (m.turns : Int)]
def PMove.goes (m : PMove) (t : Int) : PArc := ⟨m.proc, t, m.bad, m.reads, m.writes, m.turns⟩
/-- A system: where it begins, what is seen of a state, what leads from it. -/
structure Sys where
  beg : ByteArray
  look : ByteArray → PNode
  next : ByteArray → List PMove
/-- The sizes of what is told. -/
structure SmallS (S : Sys) : Prop where
  beg : S.beg.size ≤ 1048576
  dsts : ∀ s, s.size ≤ 1048576 → ∀ m ∈ S.next s, m.dst.size ≤ 1048576
  len : ∀ s, s.size ≤ 1048576 → (S.next s).length ≤ 2000000
  reads : ∀ s, s.size ≤ 1048576 → ∀ m ∈ S.next s, m.reads.length ≤ 2000000 ∧ m.writes.length ≤ 2000000
def Tells (l : List PMove) (pre : List Value) (x : Value) (W0 W : World) : Prop := ∃ (h : pre.length < l.length) (vr vw : Value), x = .agg (mvC l[pre.length] vr vw).toArray ∧ RowX W0.heap.size W vr l[pre.length].reads ∧ RowX W0.heap.size W vw l[pre.length].writes
/-- Where a system's value lies among the interfaces. -/
structure Ifc where
  tid : TypeId
  dyn : Value
  fB : Nat
  fL : Nat
  fN : Nat
  fG : Nat
/-- The blocks whose cells a range's body leaves as they were, by their types: a system's own, and numbers and truths that were laid behind lo. -/
def safeTs : List TypeId := [109, 104, 163]
def Safe (lo k : Nat) (t : TypeId) : Prop := t ∈ safeTs ∨ ((t = 3 ∨ t = 4) ∧ lo ≤ k)
theorem safe_not {lo k : Nat} {t : TypeId} (h1 : t ∉ safeTs) (h2 : t ≠ 4) (h3 : t ≠ 3 ∨ k < lo) : ¬ Safe lo k t := fun h => by
  rcases h with h | ⟨h, h4⟩
  · exact h1 h
  · rcases h3 with h3 | h3
    · exact h.elim h3 h2
    · omega
/-- What a body leaves as it was. -/
structure KpT (n₀ lo : Nat) (A B : World) : Prop where
  below : Below n₀ A B
  safe : ∀ k t cs, Safe lo k t → Holds A k t cs → Holds B k t cs
theorem KpT.trans {n₀ lo : Nat} {A B C : World} (h : KpT n₀ lo A B) (h2 : KpT n₀ lo B C) : KpT n₀ lo A C := ⟨belowK_t h.below h2.below, fun k t cs hs hh => h2.safe k t cs hs (h.safe k t cs hs hh)⟩
theorem KpT.put {n₀ lo : Nat} {w : World} (hz : n₀ ≤ w.heap.size) (W : World) (l : Nat) (o o' : Obj) (hl : w.heap.size ≤ l) (ho : W.heap[l]? = some o) (hc : o.isCells = false) (hw : o.isWalk = false) : KpT n₀ lo W (W.putObj l o') := ⟨belowK_b hz W l o o' hl ho hc hw, fun k t cs _ hh => by
  have hne : k ≠ l := by
    rintro rfl
    unfold Holds at hh
    rw [ho] at hh
    cases hh
    cases hc
  exact hh.of_eq (World.putObj_heap_other hne)⟩
/-- An iterator that is handed back. -/
def ItV (I : Ifc) (l : List PMove) (b : Nat) (f : Value) (w : World) : Prop := ∃ lb, f = .func (.func I.fG) #[] lb ∧ ∀ (n n₀ : Nat) (w' : World), b ≤ n₀ → n₀ ≤ w'.heap.size → Below w.heap.size w w' → SeqTells Fence.wide n Try.prog I.fG lb (fun x => #[x]) (KpT n₀ w'.heap.size) (Tells l) (fun ys => ys.length = l.length) (fun _ => True) l.length w'
/-- A system's methods tell what the plain one does, in whatever world behind w. -/
structure SysOk (I : Ifc) (S : Sys) (w : World) : Prop where
  mB : ∀ w', (method 316 I.tid I.dyn "Begin").run Try.prog w' = .ok (I.fB, I.dyn) w'
  mL : ∀ w', (method 316 I.tid I.dyn "Look").run Try.prog w' = .ok (I.fL, I.dyn) w'
  mN : ∀ w', (method 316 I.tid I.dyn "Next").run Try.prog w' = .ok (I.fN, I.dyn) w'
  nL : ∀ w', (nilAhead 316 I.tid I.dyn "Look").run Try.prog w' = .ok (some false) w'
  nN : ∀ w', (nilAhead 316 I.tid I.dyn "Next").run Try.prog w' = .ok (some false) w'
  eB : ∀ args w', (callFunc I.fB args).run Try.prog w' = .ok (.enter I.fB args) w'
  eL : ∀ args w', (callFunc I.fL args).run Try.prog w' = .ok (.enter I.fL args) w'
  eN : ∀ args w', (callFunc I.fN args).run Try.prog w' = .ok (.enter I.fN args) w'
  enter : ∀ args w', (callFunc I.fG args).run Try.prog w' = .ok (.enter I.fG args) w'
  small : SmallS S
  beg : ∀ w', Below w.heap.size w w' → Calls Try.prog I.fB #[I.dyn] w' (fun e w'' => e = .returned (.string S.beg) ∧ Below w'.heap.size w' w'')
  look : ∀ w' s, Below w.heap.size w w' → s.size ≤ 1048576 → Calls Try.prog I.fL #[I.dyn, .string s] w' (fun e w'' => Below w'.heap.size w' w'' ∧ e = .returned (sight (S.look s)))
  next : ∀ w' s, Below w.heap.size w w' → s.size ≤ 1048576 → Calls Try.prog I.fN #[I.dyn, .string s] w' (fun e w'' => Below w'.heap.size w' w'' ∧ ∃ f, e = .returned f ∧ ItV I (S.next s) w.heap.size f w'')
theorem SysOk.at {I : Ifc} {S : Sys} {w w1 : World} (h : SysOk I S w) (hb : Below w.heap.size w w1) : SysOk I S w1 :=
  ⟨h.mB, h.mL, h.mN, h.nL, h.nN, h.eB, h.eL, h.eN, h.enter, h.small, fun w' hw => h.beg w' (hb.trans (hw.mono hb.size)), fun w' s hw => h.look w' s (hb.trans (hw.mono hb.size)), fun w' s hw hs => (h.next w' s (hb.trans (hw.mono hb.size)) hs).mono fun e w'' ⟨h1, f, h2, lb, h3, h4⟩ => ⟨h1, f, h2, lb, h3, fun n n₀ w3 hn => h4 n n₀ w3 (Nat.le_trans hb.size hn)⟩⟩

/-- Exploring: a move; a row of moves, of which c have been counted before; the states from the i-th on. -/
def stepA (most : Nat) (st : List ByteArray) (a : PMove) : Option (List ByteArray × PArc) :=
  if a.bad = 0 then
    if a.dst ∈ st then some (st, a.goes ((st.idxOf a.dst : Int)))
    else if st.length = most then none else some (st ++ [a.dst], a.goes ((st.length : Int)))
  else some (st, a.goes 0)
def stepAs (most : Nat) : Nat → List ByteArray → List PMove → Option (List ByteArray × List PArc)
  | _, st, [] => some (st, [])
  | c, st, a :: l => match stepA most st a with
    | none => none
    | some (st1, b) => if 262144 < c + 1 then none else match stepAs most (c + 1) st1 l with
      | none => none
      | some (st2, bs) => some (st2, b :: bs)
def exF (S : Sys) (most : Nat) : Nat → Nat → Nat → List ByteArray → Option (List ByteArray × PNet)
  | 0, _, _, _ => none
  | fu + 1, i, c, st => match st[i]? with
    | none => some (st, [])
    | some s => match stepAs most c st (S.next s) with
      | none => none
      | some (st1, bs) => match exF S most fu (i + 1) (c + (S.next s).length) st1 with
        | none => none
        | some (st2, out) => some (st2, { S.look s with arcs := bs } :: out)
theorem stepA_old {most : Nat} {st : List ByteArray} {a : PMove} (hb : a.bad = 0) (h : a.dst ∈ st) : stepA most st a = some (st, a.goes (st.idxOf a.dst : Int)) := by
  unfold stepA
  rw [if_pos hb, if_pos h]
theorem stepA_new {most : Nat} {st : List ByteArray} {a : PMove} (hb : a.bad = 0) (h : ¬ a.dst ∈ st) (hm : ¬ st.length = most) : stepA most st a = some (st ++ [a.dst], a.goes (st.length : Int)) := by
  unfold stepA
  rw [if_pos hb, if_neg h, if_neg hm]
theorem stepA_bad {most : Nat} {st : List ByteArray} {a : PMove} (hb : ¬ a.bad = 0) : stepA most st a = some (st, a.goes 0) := by
  unfold stepA
  rw [if_neg hb]
theorem stepAs_snoc (most : Nat) : ∀ (l : List PMove) (a : PMove) (c : Nat) (st : List ByteArray), stepAs most c st (l ++ [a]) = (match stepAs most c st l with
    | none => none
    | some (st1, bs) => match stepA most st1 a with
      | none => none
      | some (st2, b) => if 262144 < c + l.length + 1 then none else some (st2, bs ++ [b]))
  | [], a, c, st => by
    simp only [List.nil_append, stepAs]
    cases stepA most st a with
    | none => rfl
    | some p => simp only [List.length_nil, Nat.add_zero]
  | d :: l, a, c, st => by
    simp only [List.cons_append, stepAs]
    cases stepA most st d with
    | none => rfl
    | some p =>
      simp only
      by_cases hc : 262144 < c + 1
      · rw [if_pos hc, if_pos hc]
      · rw [if_neg hc, if_neg hc, stepAs_snoc most l a (c + 1) p.1]
        cases stepAs most (c + 1) p.1 l with
        | none => rfl
        | some q =>
          simp only
          cases stepA most q.1 a with
          | none => rfl
          | some r =>
            simp only
            rw [show c + 1 + l.length + 1 = c + (d :: l).length + 1 by rw [List.length_cons]; omega]
            by_cases h2 : 262144 < c + (d :: l).length + 1
            · rw [if_pos h2, if_pos h2]
            · rw [if_neg h2, if_neg h2]; rfl
theorem stepAs_app_none (most : Nat) : ∀ (l m : List PMove) (c : Nat) (st : List ByteArray), stepAs most c st l = none → stepAs most c st (l ++ m) = none
  | [], m, c, st, h => by rw [stepAs] at h; cases h
  | d :: l, m, c, st, h => by
    rw [stepAs] at h
    rw [List.cons_append, stepAs]
    split at h
    · rename_i e; rfl
    · rename_i st1 b e
      by_cases hc : 262144 < c + 1
      · rw [if_pos hc]
      · rw [if_neg hc] at h
        rw [if_neg hc]
        split at h
        · rename_i e2; rw [stepAs_app_none most l m (c + 1) st1 e2]
        · cases h
/-- The states that have been met. -/
structure Met (most : Nat) (st : List ByteArray) : Prop where
  nodup : st.Nodup
  size : ∀ x ∈ st, x.size ≤ 1048576
  len : st.length ≤ most
theorem stepA_met {most : Nat} {st st1 : List ByteArray} {a : PMove} {b : PArc} (h : Met most st) (ha : a.dst.size ≤ 1048576) (hs : stepA most st a = some (st1, b)) : Met most st1 ∧ st <+: st1 := by
  unfold stepA at hs
  split at hs
  · split at hs
    · injection hs with hs; injection hs with hs _; subst hs; exact ⟨h, List.prefix_refl _⟩
    · rename_i hin
      split at hs
      · cases hs
      · rename_i hl
        injection hs with hs; injection hs with hs _; subst hs
        refine ⟨⟨?_, ?_, ?_⟩, List.prefix_append _ _⟩
        · rw [List.nodup_append]
          refine ⟨h.nodup, by simp, fun x hx y hy e => ?_⟩
          rw [List.mem_singleton] at hy
          exact hin (by rw [← hy, ← e]; exact hx)
        · intro x hx
          rcases List.mem_append.1 hx with hx | hx
          · exact h.size x hx
          · rw [List.mem_singleton] at hx; rw [hx]; exact ha
        · have := h.len
          rw [List.length_append, List.length_singleton]
          omega
  · injection hs with hs; injection hs with hs _; subst hs; exact ⟨h, List.prefix_refl _⟩
theorem stepAs_met {most : Nat} : ∀ {l : List PMove} {c : Nat} {st st1 : List ByteArray} {bs : List PArc}, Met most st → (∀ a ∈ l, a.dst.size ≤ 1048576) → stepAs most c st l = some (st1, bs) → Met most st1 ∧ st <+: st1 ∧ bs.length = l.length ∧ (c ≤ 262144 → c + l.length ≤ 262144)
  | [], c, st, st1, bs, h, ha, hs => by
    rw [stepAs] at hs; injection hs with hs; injection hs with hs hs'; subst hs; subst hs'; exact ⟨h, List.prefix_refl _, rfl, fun h => h⟩
  | a :: l, c, st, st1, bs, h, ha, hs => by
    rw [stepAs] at hs
    split at hs
    · cases hs
    · rename_i st' b e1
      by_cases hc : 262144 < c + 1
      · rw [if_pos hc] at hs; cases hs
      · rw [if_neg hc] at hs
        split at hs
        · cases hs
        · rename_i st2 bs2 e2
          injection hs with hs; injection hs with hs hs'; subst hs; subst hs'
          obtain ⟨h1, h2⟩ := stepA_met h (ha a (by simp)) e1
          obtain ⟨h3, h4, h5, h6⟩ := stepAs_met h1 (fun x hx => ha x (by simp [hx])) e2
          exact ⟨h3, h2.trans h4, by simp [h5], fun _ => by have := h6 (by omega); rw [List.length_cons]; omega⟩
theorem bytes_inj {s t : ByteArray} (h : s.data.toList = t.data.toList) : s = t := by
  cases s; cases t
  congr
  exact Array.toList_inj.1 h
/-- The map, plain: off more than the number is kept for each state that has one. -/
structure NumD (off : Nat) (D : DataW Unit) (st : List ByteArray) : Prop where
  isMap : IsMap D
  has : ∀ m : ByteArray, Maps.has D (.string m.data.toList) = decide (m ∈ st)
  at_ : ∀ m : ByteArray, m ∈ st → ∀ z, D.atKey (.string m.data.toList) z = .lit (.int .i64 ((st.idxOf m + off : Nat) : Int))
theorem NumD.nil (off : Nat) : NumD off (.map []) [] := ⟨isMap_empty, fun m => by simp [Maps.has], fun m h => by cases h⟩
theorem isKey_str (m : ByteArray) : WideAt.IsKeyLit (.string m.data.toList) := trivial
theorem NumD.put {off : Nat} {D : DataW Unit} {st : List ByteArray} (h : NumD off D st) {m : ByteArray} (hn : m ∉ st) : NumD off (D.put (.string m.data.toList) (.lit (.int .i64 ((st.length + off : Nat) : Int)))) (st ++ [m]) := by
  refine ⟨h.isMap.put _ _, fun k => ?_, fun k hin z => ?_⟩
  · by_cases e : k = m
    · subst e
      rw [has_put_same h.isMap (isKey_str k)]
      simp
    · rw [has_put_other (fun he => e (by injection he with he; exact bytes_inj he)), h.has k]
      simp [e]
  · by_cases e : k = m
    · subst e
      rw [atKey_put_same h.isMap (isKey_str k), List.idxOf_append, if_neg hn]
      simp
    · have hks : k ∈ st := by
        rcases List.mem_append.1 hin with h1 | h1
        · exact h1
        · rw [List.mem_singleton] at h1; exact absurd h1 e
      rw [atKey_put_other (fun he => e (by injection he with he; exact bytes_inj he)), h.at_ k hks, List.idxOf_append, if_pos hks]
/-- The map in memory. -/
def NumV (off : Nat) (w : World) (b n : Nat) (st : List ByteArray) : Prop := ∃ D : DataW Unit, w.ownsMap Try.prog 9 (plainElem Try.prog 3) b n D ∧ NumD off D st
theorem key_str (m : ByteArray) (h : m.size ≤ 1048576) : keyOf Try.prog 9 (.string m) = some (.string m.data.toList) := by
  have h2 : m.size ≤ maxLen := by unfold maxLen; omega
  unfold keyOf mapKey
  rw [Try.underlying9]
  simp only
  rw [if_pos h2]
section
variable {off : Nat}
theorem NumV.alloc {w : World} {b n : Nat} {st : List ByteArray} (h : NumV off w b n st) (o : Obj) : NumV off (w.alloc o) b n st := by
  obtain ⟨D, h1, h2⟩ := h
  exact ⟨D, h1.alloc o, h2⟩
theorem NumV.of_eq {w w' : World} {b n : Nat} {st : List ByteArray} (h : NumV off w b n st) (he : w'.heap[b]? = w.heap[b]?) : NumV off w' b n st := by
  obtain ⟨D, ⟨es, clock, hb, F, hs, hD⟩, h2⟩ := h
  exact ⟨D, ⟨es, clock, he.trans hb, F, hs, hD⟩, h2⟩
theorem NumV.lt {w : World} {b n : Nat} {st : List ByteArray} (h : NumV off w b n st) : b < w.heap.size := by
  obtain ⟨D, h1, _⟩ := h
  exact h1.lt
theorem NumV.ne {w : World} {b n g : Nat} {st : List ByteArray} {t : TypeId} {cs : List Value} (h : NumV off w b n st) (hg : Holds w g t cs) : b ≠ g := by
  obtain ⟨D, ⟨es, clock, hb, _⟩, _⟩ := h
  rintro rfl
  unfold Holds at hg
  rw [hb] at hg
  cases hg
end
section
variable {off : Nat} {F : Fence} {n : Nat} {ops : Array Oper} {rest : List Oper} {o : Oper} {a : Act} {Q : Exit → Act → World → Prop} {w : World}
theorem NumV.update {b N : Nat} {k : ByteArray} {st : List ByteArray} (h : NumV off w b N st) (hN : N < maxLen) (hk : k.size ≤ 1048576) (hn : k ∉ st) (hl : st.length + off ≤ 30000) :
    ∃ w', (Instr.mapUpdate 90 (.map (some b)) (.string k) (.int .i64 ((st.length + off : Nat) : Int))).run Try.prog w = .ok () w' ∧ NumV off w' b (N + 1) (st ++ [k]) ∧ w.grownBy w' (some b) := by
  obtain ⟨D, h1, h2⟩ := h
  obtain ⟨w', hrun, r1, r2⟩ := h1.update str_keyed Try.underlying90 hN (key_str k hk) (plain_num (st.length + off) (by omega))
  exact ⟨w', hrun, ⟨_, r1, h2.put hn⟩, r2⟩
theorem wpListIn_insert_num (hg : o.guard = none) (m x v : Operand) (hop : o.op = .insert 90 m x v ∨ o.op = .mapUpdate 90 m x v) (b N : Nat) (k : ByteArray) (st : List ByteArray)
    (hm : a.eval m = .map (some b)) (hx : a.eval x = .string k) (hv : a.eval v = .int .i64 ((st.length + off : Nat) : Int)) (h : NumV off w b N st) (hN : N < maxLen) (hk : k.size ≤ 1048576) (hn : k ∉ st) (hl : st.length + off ≤ 30000)
    (hK : ∀ w', NumV off w' b (N + 1) (st ++ [k]) → w.grownBy w' (some b) → wpListIn F n Try.prog ops Q rest (a.put o.dst undef) w') : wpListIn F n Try.prog ops Q (o :: rest) a w := by
  refine wpListIn_plain hg fun K' hK' => ?_
  obtain ⟨w', hrun, r1, r2⟩ := h.update hN hk hn hl
  generalize ((st.length + off : Nat) : Int) = z at hv hrun
  unfold Oper.wpIn
  rcases hop with hop | hop
  · refine ⟨by simp [Oper.about, hop], ?_⟩
    rw [Oper.semAt_plain F _ _ (by rw [hop]; intro c hc'; cases hc')]
    simp [execOp, hop, hm, hx, hv, hrun, Result.andThen]
    exact hK' _ _ (hK w' r1 r2)
  · refine ⟨by simp [Oper.about, hop], ?_⟩
    rw [Oper.semAt_plain F _ _ (by rw [hop]; intro c hc'; cases hc')]
    simp [execOp, hop, hm, hx, hv, hrun, Result.andThen]
    exact hK' _ _ (hK w' r1 r2)
theorem wpListIn_look_num (hg : o.guard = none) (m x : Operand) (hop : o.op = .lookup 90 m x true) (b N : Nat) (k : ByteArray) (st : List ByteArray)
    (hm : a.eval m = .map (some b)) (hx : a.eval x = .string k) (h : NumV off w b N st) (hk : k.size ≤ 1048576)
    (hK : ∀ c : Int, (k ∈ st → c = ((st.idxOf k + off : Nat) : Int)) → wpListIn F n Try.prog ops Q rest (a.put o.dst (.tuple #[.int .i64 c, .bool (decide (k ∈ st))])) w) : wpListIn F n Try.prog ops Q (o :: rest) a w := by
  obtain ⟨D, h1, h2⟩ := h
  refine wpListIn_lookup_own_ok_int w hg m x 90 hop 9 3 .i64 str_keyed Try.underlying90 Try.underlying3 (by kernel_rfl) b N D hm h1 _ _ hx (key_str k hk) fun c hat hwf => ?_
  rw [h2.has k]
  refine hK c fun hin => ?_
  rw [h2.at_ k hin] at hat
  injection hat with hat
  injection hat with _ hat
  exact hat.symm
end
end Go.Proofs.Ytpednhcfkjjcpaa.G
