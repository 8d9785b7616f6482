/- Processes side by side are a system. -/
import Derived.Test.YtcopoaaofjeklaaTbg
import Derived.Test.YtcopoaaofjeklaaTnx
import Derived.Test.YtcopoaaofjeklaaTlk
import Derived.Test.YtcopoaaofjeklaaGgr
namespace Go.Proofs.Ytcopoaaofjeklaa.G
open Go.RowKit Go.Maps
set_option linter.unusedVariables false
set_option linter.unusedSimpArgs false

theorem tarcs_mem {t : PThr} {vs ns : List Nat} {p : Nat} {l : List TNode} {x : TNode} : ∀ {r : List TArc} {k : Nat} {m : PMove}, m ∈ tarcs t vs ns p l x k r → ∃ j a, a ∈ r ∧ m = tmove t vs ns p l x j a
  | [], k, m, h => by rw [tarcs] at h; cases h
  | a :: r, k, m, h => by
    rw [tarcs] at h
    rcases List.mem_append.1 h with h | h
    · split at h
      · rw [List.mem_singleton] at h
        exact ⟨k, a, by simp, h⟩
      · cases h
    · obtain ⟨j, a', h1, h2⟩ := tarcs_mem h
      exact ⟨j, a', List.mem_cons_of_mem _ h1, h2⟩
theorem tarcs_len {t : PThr} {vs ns : List Nat} {p : Nat} {l : List TNode} {x : TNode} : ∀ (r : List TArc) (k : Nat), (tarcs t vs ns p l x k r).length ≤ r.length
  | [], k => by rw [tarcs]; exact Nat.le_refl _
  | a :: r, k => by
    rw [tarcs, List.length_append, List.length_cons]
    have := tarcs_len (t := t) (vs := vs) (ns := ns) (p := p) (l := l) (x := x) r (k + 1)
    split <;> simp <;> omega
theorem tprocs_mem {t : PThr} {vs ns : List Nat} : ∀ {r : List (List TNode)} {p : Nat} {m : PMove}, m ∈ tprocs t vs ns p r → ∃ q l x j a, l ∈ r ∧ x ∈ l ∧ a ∈ x.arcs ∧ m = tmove t vs ns q l x j a
  | [], p, m, h => by rw [tprocs] at h; cases h
  | l :: r, p, m, h => by
    rw [tprocs] at h
    rcases List.mem_append.1 h with h | h
    · split at h
      · rename_i x hx
        obtain ⟨j, a, h1, h2⟩ := tarcs_mem h
        exact ⟨p, l, x, j, a, by simp, List.mem_of_getElem? hx, h1, h2⟩
      · cases h
    · obtain ⟨q, l', x, j, a, h1, h2⟩ := tprocs_mem h
      exact ⟨q, l', x, j, a, List.mem_cons_of_mem _ h1, h2⟩
theorem tprocs_len {t : PThr} {vs ns : List Nat} : ∀ (r : List (List TNode)) (p : Nat), (∀ l ∈ r, ∀ x ∈ l, x.arcs.length ≤ 1000) → (tprocs t vs ns p r).length ≤ r.length * 1000
  | [], p, h => by rw [tprocs]; simp
  | l :: r, p, h => by
    rw [tprocs, List.length_append, List.length_cons]
    have h1 := tprocs_len (t := t) (vs := vs) (ns := ns) r (p + 1) fun l hl => h l (List.mem_cons_of_mem _ hl)
    split
    · rename_i x hx
      have h2 := tarcs_len (t := t) (vs := vs) (ns := ns) (p := p) (l := l) (x := x) x.arcs 0
      have h3 := h l (by simp) x (List.mem_of_getElem? hx)
      omega
    · rw [List.length_nil, Nat.zero_add]
      exact Nat.le_trans h1 (Nat.mul_le_mul_right _ (Nat.le_succ _))
set_option maxRecDepth 100000 in
theorem bytesOf_size {l : List Nat} (h : ∀ n ∈ l, n < 18446744073709551616) (hl : l.length ≤ 1000) : (bytesOf l).size ≤ 1048576 := by
  have h1 := encs_le h
  show (encs l).toArray.size ≤ _
  simp
  omega
theorem small_threads {t : PThr} (ht : OkT t) : SmallS (tsys t) := by
  obtain ⟨l16, l8, l60⟩ := ht.len
  refine ⟨?_, fun s hs m hm => ?_, fun s hs => ?_, fun s hs m hm => ?_⟩
  · refine bytesOf_size (fun n hn => ?_) (by simp; omega)
    rcases List.mem_append.1 hn with hn | hn
    · obtain ⟨z, hz, rfl⟩ := List.mem_map.1 hn
      have := (ht.init z hz).2
      omega
    · rw [List.eq_of_mem_replicate hn]; omega
  · change m ∈ tnext t s at hm
    unfold tnext at hm
    split at hm
    · rename_i vs ns hts
      obtain ⟨k1, k2, k3, k4, k5⟩ := tstate_of hts
      obtain ⟨q, l, x, j, a, h1, h2, h3, rfl⟩ := tprocs_mem hm
      have hp := ht.procs l h1
      have ha := hp.2.2.2 x h2 a h3
      show (if a.bad = 0 then bytesOf (tdst vs.length vs ns q a) else ⟨#[]⟩ : ByteArray).size ≤ _
      split
      · have hb : ∀ z ∈ vs ++ ns, z < 18446744073709551616 := fun z hz => by
          rcases List.mem_append.1 hz with hz | hz
          · have := k3 z hz; omega
          · have := k5 z hz; omega
        have hb2 : ∀ z ∈ (vs ++ ns).set (vs.length + q) a.dst.toNat, z < 18446744073709551616 := fun z hz => by
          rcases List.mem_or_eq_of_mem_set hz with hz | rfl
          · exact hb z hz
          · have := ha.dst; have := hp.2.1; omega
        refine bytesOf_size (fun z hz => ?_) ?_
        · unfold tdst at hz
          simp only at hz
          split at hz
          · rename_i hpu
            rcases List.mem_or_eq_of_mem_set hz with hz | rfl
            · exact hb2 z hz
            · have := (ha.put hpu).2; omega
          · exact hb2 z hz
        · unfold tdst
          simp only
          split <;> simp <;> omega
      · show (0 : Nat) ≤ _
        omega
    · cases hm
  · show (tnext t s).length ≤ _
    unfold tnext
    split
    · rename_i vs ns _
      have := tprocs_len (t := t) (vs := vs) (ns := ns) t.procs 0 fun l hl x hx => Nat.le_trans (mem_le_sum (List.mem_map.2 ⟨x, hx, rfl⟩)) (ht.procs l hl).2.2.1
      exact Nat.le_trans this (by omega)
    · simp
  · change m ∈ tnext t s at hm
    unfold tnext at hm
    split at hm
    · obtain ⟨q, l, x, j, a, h1, h2, h3, rfl⟩ := tprocs_mem hm
      refine ⟨?_, ?_⟩
      · show (footR a).length ≤ _
        unfold footR
        split <;> simp
      · show (footW a).length ≤ _
        unfold footW
        split <;> simp
    · cases hm
def tifc (a b c : Value) : Ifc := ⟨66, .agg #[a, b, c], 48, 52, 53, 58⟩
theorem tmBegin (a b c : Value) (w : World) : (method 252 66 (.agg #[a, b, c]) "Begin").run Try.prog w = .ok (48, .agg #[a, b, c]) w := by kernel_rfl
theorem tmLook (a b c : Value) (w : World) : (method 252 66 (.agg #[a, b, c]) "Look").run Try.prog w = .ok (52, .agg #[a, b, c]) w := by kernel_rfl
theorem tmNext (a b c : Value) (w : World) : (method 252 66 (.agg #[a, b, c]) "Next").run Try.prog w = .ok (53, .agg #[a, b, c]) w := by kernel_rfl
theorem tnLook (a b c : Value) (w : World) : (nilAhead 252 66 (.agg #[a, b, c]) "Look").run Try.prog w = .ok (some false) w := by kernel_rfl
theorem tnNext (a b c : Value) (w : World) : (nilAhead 252 66 (.agg #[a, b, c]) "Next").run Try.prog w = .ok (some false) w := by kernel_rfl
theorem threads_ok {P : Nat → Prop} {w : World} {t : PThr} {a b c : Value} (hv : ThrV P w a b c t) (ht : OkT t) : SysOk (tifc a b c) (tsys t) w := by
  have hv := hv.mono (Q := fun q => q < w.heap.size) (fun q _ hq => hq)
  have c1 : a.oneCell' = true := hv.init.cell1
  have c2 : b.oneCell' = true := by obtain ⟨_, k, _⟩ := hv.procs; exact k.cell1
  have c3 : c.oneCell' = true := by obtain ⟨_, k, _⟩ := hv.props; exact k.cell1
  refine ⟨tmBegin a b c, tmLook a b c, tmNext a b c, tnLook a b c, tnNext a b c, Go.Proofs.enters_of Try.func48 (by kernel_rfl) rfl, Go.Proofs.enters_of Try.func52 (by kernel_rfl) rfl, Go.Proofs.enters_of Try.func53 (by kernel_rfl) rfl, Go.Proofs.enters_of Try.func58 (by kernel_rfl) rfl, small_threads ht, fun w' hb => ?_, fun w' s hb hz => ?_, fun w' s hb hz => ?_⟩
  · exact tbeginFn (hv.up (Keep.below hb)) ht
  · exact tlookFn (hv.up (Keep.below hb)) ht hz
  · refine (tnextFn w' s c1 c2 c3).mono fun e w2 ⟨h1, b0, b1, h2, h3, h4⟩ => ⟨h1, _, h2, _, rfl, fun n n₀ w3 hb0 hn hb3 => ?_⟩
    exact tnext1 n n₀ (hv.up (Keep.below (hb.trans ((h1.trans (hb3.mono h1.size)).mono hb.size)))) ht (fun k hk => Nat.lt_of_lt_of_le hk hb0) hn hz (h3.belowAll hb3) (h4.belowAll hb3)
end Go.Proofs.Ytcopoaaofjeklaa.G
