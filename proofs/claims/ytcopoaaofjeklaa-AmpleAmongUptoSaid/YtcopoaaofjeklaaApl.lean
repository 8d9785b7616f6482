/- Moves that are enough: what holds of them, plain. -/
import Derived.Test.YtcopoaaofjeklaaApw
namespace Go.Proofs.Ytcopoaaofjeklaa.G
open Go.RowKit
set_option linter.unusedVariables false
set_option linter.unusedSimpArgs false

theorem nums_encs : ∀ (l : List Nat), (∀ n ∈ l, n ≤ 20000) → nums 20000 l.length (encs l) = some (l, [])
  | [], _ => rfl
  | n :: l, h => by
    have h1 : encs (n :: l) = enc n ++ encs l := by simp [encs]
    rw [h1, List.length_cons, nums, dec_enc (h n (by simp))]
    simp only
    rw [if_neg (by have := h n (by simp); omega), List.drop_append_of_le_length (Nat.le_refl _), List.drop_length, List.nil_append, nums_encs l fun k hk => h k (by simp [hk])]
theorem inAll_intro : ∀ {l : List Nat} {r : List (List TNode)}, (∀ (i : Nat) (h : i < l.length) (h2 : i < r.length), l[i] < r[i].length) → inAll l r = true
  | [], r, _ => by unfold inAll; rfl
  | k :: l, [], _ => by unfold inAll; rfl
  | k :: l, p :: r, h => by
    rw [inAll, Bool.and_eq_true, decide_eq_true_eq]
    exact ⟨h 0 (by simp) (by simp), inAll_intro fun i h1 h2 => h (i + 1) (by simpa using h1) (by simpa using h2)⟩
/-- A state that is made decodes as it was made. -/
theorem tstate_made {t : PThr} {vs ns : List Nat} (hv : vs.length = t.init.length) (hn : ns.length = t.procs.length) (h1 : ∀ v ∈ vs, v ≤ 255) (h2 : ∀ (i : Nat) (h : i < ns.length) (h2 : i < t.procs.length), ns[i] < t.procs[i].length) (h3 : ∀ k ∈ ns, k ≤ 20000) : tstate t (bytesOf (vs ++ ns)) = some (vs, ns) := by
  have h4 := nums_encs (vs ++ ns) fun n h => by
    rcases List.mem_append.1 h with h | h
    · have := h1 n h; omega
    · exact h3 n h
  unfold tstate
  have h5 : (bytesOf (vs ++ ns)).data.toList = encs (vs ++ ns) := rfl
  have h6 : t.init.length + t.procs.length = (vs ++ ns).length := by rw [List.length_append]; omega
  rw [h5, h6, h4]
  simp only
  rw [← hv, List.take_left, List.drop_left, if_pos]
  rw [Bool.and_eq_true, List.all_eq_true]
  exact ⟨fun v hv => by simpa using h1 v hv, inAll_intro h2⟩
theorem bit_no {x vis k : Nat} (h : x &&& vis = 0) (hv : vis.testBit k = true) : x.testBit k = false := by
  have h1 := congrArg (·.testBit k) h
  simpa [Nat.testBit_and, hv] using h1
theorem or_no {x y vis : Nat} (h : (x ||| y) &&& vis = 0) : x &&& vis = 0 ∧ y &&& vis = 0 := by
  rw [Nat.and_or_distrib_right] at h
  exact Nat.or_eq_zero_iff.1 h
theorem props_same {vs : List Nat} {o : Int} {v vis k : Nat} (ho : 0 ≤ o) (hv : vis.testBit k = true) : ∀ (l : List TProp) (i : Nat), (∀ p ∈ l, 0 ≤ p.obj) → tturns o l i &&& vis = 0 → (tprops (vs.set o.toNat v) l i).testBit k = (tprops vs l i).testBit k
  | [], i, _, _ => rfl
  | p :: r, i, hp, h => by
    rw [tturns] at h
    obtain ⟨h1, h2⟩ := or_no h
    rw [tprops, tprops, Nat.testBit_or, Nat.testBit_or, props_same ho hv r (i + 1) (fun q hq => hp q (by simp [hq])) h2]
    by_cases e : p.obj = o
    · rw [if_pos e] at h1
      have hb := bit_no h1 hv
      have h0 : ∀ c : Prop, [Decidable c] → (if c then 2 ^ i else 0 : Nat).testBit k = false := fun c _ => by
        split
        · exact hb
        · exact Nat.zero_testBit k
      rw [h0, h0]
    · have hne : o.toNat ≠ p.obj.toNat := fun e2 => e (by have := hp p (by simp); omega)
      rw [List.getElem?_set_ne hne]
theorem xor_no {x y vis : Nat} (h : ∀ k, vis.testBit k = true → x.testBit k = y.testBit k) : (x ^^^ y) &&& vis = 0 := by
  apply Nat.eq_of_testBit_eq
  intro k
  rw [Nat.testBit_and, Nat.testBit_xor, Nat.zero_testBit]
  cases hv : vis.testBit k with
  | false => simp
  | true => rw [h k hv]; simp
/-- A move that turns nothing that is looked at leads where nothing of it has turned. -/
theorem look_same {t : PThr} (ht : OkT t) {s : ByteArray} {vs ns : List Nat} (hs : tstate t s = some (vs, ns)) {p : Nat} {l : List TNode} {x : TNode} {a : TArc} (hp : t.procs[p]? = some l) (hx : x ∈ l) (ha : a ∈ x.arcs) {vis : Nat} (hf : tfootT t l x a &&& vis = 0) :
    ((tlook t s).props ^^^ (tlook t (bytesOf (tdst vs.length vs ns p a))).props) &&& vis = 0 := by
  obtain ⟨k1, k2, k3, k4, k5⟩ := tstate_of hs
  have hlm := List.mem_of_getElem? hp
  have hpr := ht.procs l hlm
  have hok := hpr.2.2.2 x hx a ha
  have hpl : p < t.procs.length := (List.getElem?_eq_some_iff.1 hp).1
  have hlp : t.procs[p] = l := (List.getElem?_eq_some_iff.1 hp).2
  obtain ⟨vs', hvs⟩ : ∃ z, z = if a.put then vs.set a.sobj.toNat a.sto.toNat else vs := ⟨_, rfl⟩
  have hd : tdst vs.length vs ns p a = vs' ++ ns.set p a.dst.toNat := by
    unfold tdst
    simp only
    rw [List.set_append_right _ _ (by omega), Nat.add_sub_cancel_left, hvs]
    by_cases hpu : a.put
    · have hso := (hok.put hpu).1
      rw [if_pos hpu, if_pos hpu, List.set_append_left _ _ (by omega)]
    · rw [if_neg hpu, if_neg hpu]
  have hst : tstate t (bytesOf (tdst vs.length vs ns p a)) = some (vs', ns.set p a.dst.toNat) := by
    rw [hd]
    refine tstate_made (by rw [hvs]; split <;> simp [k1]) (by simp [k2]) (fun v hv => ?_) (fun i h1 h2 => ?_) fun k hk => ?_
    · rw [hvs] at hv
      split at hv
      · rename_i hpu
        rcases List.mem_or_eq_of_mem_set hv with hv | rfl
        · exact k3 v hv
        · have := (hok.put hpu).2; omega
      · exact k3 v hv
    · rw [List.getElem_set]
      split
      · rename_i e
        subst e
        rw [hlp]
        have := hok.dst
        omega
      · exact inAll_at k4 (by simpa using h1) h2
    · rcases List.mem_or_eq_of_mem_set hk with hk | rfl
      · exact k5 k hk
      · have := hok.dst
        have := hpr.2.1
        omega
  have e1 : (tlook t s).props = tprops vs t.props 0 := by unfold tlook; rw [hs]
  have e2 : (tlook t (bytesOf (tdst vs.length vs ns p a))).props = tprops vs' t.props 0 := by unfold tlook; rw [hst]
  rw [e1, e2]
  refine xor_no fun k hk => ?_
  rw [hvs]
  by_cases hpu : a.put
  · rw [if_pos hpu]
    unfold tfootT at hf
    rw [if_pos hpu] at hf
    exact (props_same (hok.put hpu).1.1 hk t.props 0 (fun q hq => (ht.props q hq).1) (or_no hf).1).symm
  · rw [if_neg hpu]
theorem hereGo_vis {t : PThr} {p : List TNode} {x : TNode} {vis : Nat} : ∀ (l : List TArc) (f : PFoot), (hereGo t p x l f).turns &&& vis = 0 → f.turns &&& vis = 0 ∧ ∀ a ∈ l, tfootT t p x a &&& vis = 0
  | [], f, h => ⟨h, fun a ha => by cases ha⟩
  | a :: l, f, h => by
    rw [hereGo] at h
    obtain ⟨h1, h2⟩ := hereGo_vis l _ h
    obtain ⟨h3, h4⟩ := or_no (x := f.turns) (y := tfootT t p x a) h1
    refine ⟨h3, fun b hb => ?_⟩
    rcases List.mem_cons.1 hb with rfl | hb
    · exact h4
    · exact h2 b hb
theorem tprocs_of {t : PThr} {vs ns : List Nat} : ∀ {r : List (List TNode)} {p : Nat} {m : PMove}, m ∈ tprocs t vs ns p r → ∃ q l x j a, r[q]? = some l ∧ l[ns.getD (p + q) 0]? = some x ∧ a ∈ x.arcs ∧ m = tmove t vs ns (p + q) l x j a
  | [], p, m, h => by rw [tprocs] at h; cases h
  | l :: r, p, m, h => by
    rw [tprocs] at h
    rcases List.mem_append.1 h with h | h
    · split at h
      · rename_i x hx
        obtain ⟨j, a, h1, h2⟩ := tarcs_mem h
        exact ⟨0, l, x, j, a, rfl, hx, h1, h2⟩
      · cases h
    · obtain ⟨q, l', x, j, a, h1, h2, h3, h4⟩ := tprocs_of h
      exact ⟨q + 1, l', x, j, a, by simpa using h1, by rw [show p + (q + 1) = p + 1 + q by omega]; exact h2, h3, by rw [show p + (q + 1) = p + 1 + q by omega]; exact h4⟩
/-- What a move that is enough is. -/
theorem move_fine {t : PThr} (ht : OkT t) {s : ByteArray} {vis p : Nat} (hh : (there t s (p : Int)).turns &&& vis = 0) {m : PMove} (hm : m ∈ tnext t s) (hp : m.proc = (p : Int)) (hb : m.bad = 0) :
    m.turns &&& vis = 0 ∧ ((tlook t s).props ^^^ (tlook t m.dst).props) &&& vis = 0 := by
  unfold tnext at hm
  split at hm
  · rename_i vs ns hts
    obtain ⟨q, l, x, j, a, h1, h2, h3, rfl⟩ := tprocs_of hm
    rw [Nat.zero_add] at h2 hp
    have hq : q = p := by
      have h : ((q : Nat) : Int) = (p : Int) := by simpa [tmove] using hp
      omega
    subst hq
    rw [Nat.zero_add] at hb ⊢
    obtain ⟨k1, k2, k3, k4, k5⟩ := tstate_of hts
    have hql : q < t.procs.length := (List.getElem?_eq_some_iff.1 h1).1
    have hqn : q < ns.length := by omega
    have hl : t.procs[q] = l := (List.getElem?_eq_some_iff.1 h1).2
    rw [there_some hts hql hqn, hl] at hh
    have hg : ns.getD q 0 = ns[q] := by simp [List.getD, List.getElem?_eq_getElem hqn]
    rw [hg] at h2
    unfold hereF at hh
    rw [h2] at hh
    have hft := (hereGo_vis x.arcs zeroF hh).2 a h3
    refine ⟨hft, ?_⟩
    have hd : (tmove t vs ns q l x j a).dst = bytesOf (tdst vs.length vs ns q a) := by
      have hb' : a.bad = 0 := hb
      show (if a.bad = 0 then _ else _) = _
      rw [if_pos hb']
    rw [hd]
    exact look_same ht hts h1 (List.mem_of_getElem? h2) h3 hft
  · cases hm
theorem alone_of {p : Int} : ∀ (l r : List PMove) (o : Bool) {z : List PMove}, aloneGo p l r o = (z, true) → z = r ++ l.filter (fun m => decide (m.proc = p)) ∧ (∀ m ∈ l, m.proc = p → m.bad = 0) ∧ (o = true ∨ ∃ m ∈ l, m.proc ≠ p) ∧ 0 < z.length
  | [], r, o, z, h => by
    rw [aloneGo] at h
    injection h with h1 h2
    rw [Bool.and_eq_true, decide_eq_true_eq] at h2
    subst h1
    exact ⟨by simp, fun m hm => (by cases hm), .inl h2.1, h2.2⟩
  | m :: l, r, o, z, h => by
    rw [aloneGo] at h
    split at h
    · injection h with _ h; cases h
    · split at h
      · rename_i hne
        obtain ⟨h1, h2, h3, h4⟩ := alone_of l r true h
        refine ⟨by rw [h1, List.filter_cons_of_neg (by simpa using hne)], fun k hk hp => ?_, .inr ⟨m, by simp, hne⟩, h4⟩
        rcases List.mem_cons.1 hk with rfl | hk
        · exact absurd hp hne
        · exact h2 k hk hp
      · rename_i hne
        have he : m.proc = p := Decidable.not_not.1 hne
        split at h
        · injection h with _ h; cases h
        · rename_i hb
          obtain ⟨h1, h2, h3, h4⟩ := alone_of l (r ++ [m]) o h
          refine ⟨by rw [h1, List.filter_cons_of_pos (by simpa using he)]; simp, fun k hk hp => ?_, ?_, h4⟩
          · rcases List.mem_cons.1 hk with rfl | hk
            · exact Decidable.not_not.1 fun h => hb (.inl h)
            · exact h2 k hk hp
          · rcases h3 with h3 | ⟨k, hk, h3⟩
            · exact .inl h3
            · exact .inr ⟨k, by simp [hk], h3⟩
/-- Of which moves those that are enough are. -/
def ofP (r : List PMove × Bool) (p : Int) (m : PMove) : Bool := !r.2 || decide (m.proc = p)
structure Among (t : PThr) (s : ByteArray) (vis : Nat) (ms l : List PMove) (b : Bool) (p : Int) : Prop where
  eq : l = ms.filter fun m => !b || decide (m.proc = p)
  less : b = decide (l.length < ms.length)
  some : 0 < ms.length → 0 < l.length
  fine : b = true → ∀ m ∈ ms, m.proc = p → m.bad = 0 ∧ m.turns &&& vis = 0 ∧ ((tlook t s).props ^^^ (tlook t m.dst).props) &&& vis = 0
theorem choose_cases (S : Stat) (s : ByteArray) (vis : Nat) : ∀ l : List Nat, (∃ p, fineP S s vis p = true ∧ chooseGo S s vis l = ((aloneP p (S.sys.next s)).1, true)) ∨ chooseGo S s vis l = (S.sys.next s, false)
  | [] => .inr rfl
  | p :: r => by
    rw [chooseGo]
    by_cases h : fineP S s vis p
    · rw [if_pos h]; exact .inl ⟨p, h, rfl⟩
    · rw [if_neg h]; exact choose_cases S s vis r
theorem among {t : PThr} (ht : OkT t) (s : ByteArray) (vis : Nat) {l : List PMove} {b : Bool} (h : chooseP (tstat t) s vis = (l, b)) : ∃ p : Int, Among t s vis (tnext t s) l b p := by
  rcases choose_cases (tstat t) s vis ((tstat t).live s) with ⟨p, hf, hc⟩ | hc
  · unfold chooseP at h
    rw [hc] at h
    injection h with h1 h2
    subst h2
    unfold fineP at hf
    rw [Bool.and_eq_true, Bool.and_eq_true, decide_eq_true_eq] at hf
    obtain ⟨⟨hf1, hf2⟩, _⟩ := hf
    have ha : aloneGo (p : Int) (tnext t s) [] false = (l, true) := by
      have h3 : aloneP (p : Int) (tnext t s) = ((aloneP (p : Int) (tnext t s)).1, (aloneP (p : Int) (tnext t s)).2) := rfl
      have h4 : (aloneP (p : Int) (tnext t s)).2 = true := hf1
      have h5 : (aloneP (p : Int) (tnext t s)).1 = l := h1
      rw [h4, h5] at h3
      exact h3
    obtain ⟨k1, k2, k3, k4⟩ := alone_of _ _ _ ha
    rw [List.nil_append] at k1
    refine ⟨(p : Int), by rw [k1]; congr 1, ?_, fun _ => k4, fun _ m hm hp => ?_⟩
    · symm
      rw [decide_eq_true_eq]
      rcases k3 with k3 | ⟨m, hm, hp⟩
      · cases k3
      · rw [k1]
        exact List.length_filter_lt_length_iff_exists.2 ⟨m, hm, by simpa using hp⟩
    · have hb := k2 m hm hp
      exact ⟨hb, move_fine ht hf2 hm hp hb⟩
  · unfold chooseP at h
    rw [hc] at h
    injection h with h1 h2
    subst h2
    have h1 : tnext t s = l := h1
    subst h1
    refine ⟨0, (List.filter_eq_self.2 fun m _ => rfl).symm, ?_, fun h => h, fun h => by cases h⟩
    symm
    rw [decide_eq_false_iff_not]
    omega
/-- The k-th of those that are. -/
theorem filter_at {A : Type} (f : A → Bool) : ∀ (l : List A) {j : Nat} (h : j < l.length), f l[j] = true → (l.filter f)[((l.take j).filter f).length]? = some l[j]
  | a :: l, 0, h, hf => by
    rw [List.take_zero, List.filter_nil, List.length_nil]
    rw [List.filter_cons_of_pos (by simpa using hf)]
    rfl
  | a :: l, j + 1, h, hf => by
    have h1 : j < l.length := by simpa using h
    have h2 := filter_at f l h1 (by simpa using hf)
    rw [List.take_succ_cons]
    by_cases ha : f a = true
    · rw [List.filter_cons_of_pos ha, List.filter_cons_of_pos ha, List.length_cons, List.getElem?_cons_succ]
      simpa using h2
    · rw [List.filter_cons_of_neg ha, List.filter_cons_of_neg ha]
      simpa using h2
theorem filter_step {A : Type} (f : A → Bool) (l : List A) {j : Nat} (h : j < l.length) : ((l.take (j + 1)).filter f).length = ((l.take j).filter f).length + (if f l[j] then 1 else 0) := by
  rw [List.take_add_one, List.getElem?_eq_getElem h, List.filter_append, List.length_append]
  simp only [Option.toList]
  by_cases hf : f l[j] = true
  · rw [if_pos hf, List.filter_cons_of_pos hf]; rfl
  · rw [if_neg hf, List.filter_cons_of_neg hf]; rfl
end Go.Proofs.Ytcopoaaofjeklaa.G
