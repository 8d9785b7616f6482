/- Ggr, Nst, Ukn, joined. -/
import Derived.Test.YtpednhcfkjjcpaaGmv
import Derived.Test.YtpednhcfkjjcpaaMg5
import Derived.Test.YtpednhcfkjjcpaaMg13
import Derived.Test.YtpednhcfkjjcpaaUrn
section
/- A graph is a system. -/
namespace Go.Proofs.Ytpednhcfkjjcpaa.G
open Go.RowKit Go.Maps
set_option linter.unusedVariables false
set_option linter.unusedSimpArgs false

def gmv (p : PArc × Nat) : PMove := ⟨p.1.proc, (p.2 : Int), -1, -1, toS p.1, p.1.bad, p.1.reads, p.1.writes, p.1.turns⟩
def gsys (N : PNet) : Sys := ⟨keyS 0, fun s => (nodeOf N s.data.toList).getD zeroN, fun s => ((nodeOf N s.data.toList).getD zeroN).arcs.zipIdx.map gmv⟩
def gifc (v : Value) : Ifc := ⟨83, .agg #[v], 74, 75, 76, 79⟩
theorem seq_imp {F : Fence} {n : Nat} {P : Program} {g : Nat} {lb : Array Value} {encs : Value → Array Value} {Kp Kp' : World → World → Prop} {G G' : List Value → Value → World → World → Prop} {S S' Sp : List Value → Prop} {N N' : Nat} {w : World}
    (hKp : ∀ A B, Kp' A B → Kp A B) (hG : ∀ pre x W0 W, G pre x W0 W → G' pre x W0 W) (hS : ∀ ys, S ys → S' ys) (hN : N ≤ N') (h : SeqTells F n P g lb encs Kp G S Sp N w) : SeqTells F n P g lb encs Kp' G' S' Sp N' w := fun l J Jx W hW hJ hJx hY h0 =>
  (h l J Jx W hW hJ hJx (fun pre x W0 W1 a b c d e => let ⟨fn, tmps, assign, body, hy, hR⟩ := hY pre x W0 W1 a b c (hG _ _ _ _ d) (by omega); ⟨fn, tmps, assign, body, hy, hR.mono fun e w h => ⟨h.1, h.2.imp (fun ⟨q1, q2, q3⟩ => ⟨q1, q2, hKp _ _ q3⟩) id⟩⟩) h0).mono fun e w' ⟨h1, h2⟩ => ⟨h1, h2.imp (fun ⟨xs, h3, h4⟩ => ⟨xs, hS _ h3, h4⟩) id⟩
theorem zip_at {l : List PArc} {L : List PMove} (h : L = l.zipIdx.map gmv) {k : Nat} (hk : k < L.length) (hk2 : k < l.length) : L[k] = gmv (l[k], k) := by
  subst h
  rw [List.getElem_map, List.getElem_zipIdx, Nat.zero_add]
theorem toS_size {a : PArc} (h : a.to.toNat ≤ 20000) : (toS a).size ≤ 1048576 := by
  unfold toS
  split
  · have := keyS_size h
    exact Nat.le_trans this (by omega)
  · show (0 : Nat) ≤ _
    omega
theorem small_graph {N : PNet} (hN : chk N = true) (hs : Small N) : SmallS (gsys N) := by
  have hto : ∀ x ∈ N, ∀ a ∈ x.arcs, 0 ≤ a.to ∧ a.to.toNat ≤ 20000 := fun x hx a ha => by
    have h3 := hN
    unfold chk at h3
    simp only [Bool.and_eq_true, decide_eq_true_eq] at h3
    have h4 := chkArc_to (List.all_eq_true.1 (List.all_eq_true.1 h3.1.2 x hx) a ha)
    omega
  refine ⟨?_, fun s _ m hm => ?_, fun s _ => ?_, fun s _ m hm => ?_⟩
  · have := keyS_size (n := 0) (by omega)
    show (keyS 0).size ≤ _
    omega
  · obtain ⟨⟨a, k⟩, hk, rfl⟩ := List.mem_map.1 hm
    have ha := List.fst_mem_of_mem_zipIdx hk
    cases h : nodeOf N s.data.toList with
    | none => rw [h] at ha; cases ha
    | some x =>
      obtain ⟨i, hi, rfl⟩ := nodeOf_mem h
      rw [h] at ha
      exact toS_size (hto _ (List.getElem_mem hi) a ha).2
  · show (List.map gmv _).length ≤ _
    rw [List.length_map, List.length_zipIdx]
    exact nodeOf_small hs _
  · obtain ⟨⟨a, k⟩, hk, rfl⟩ := List.mem_map.1 hm
    have ha := List.fst_mem_of_mem_zipIdx hk
    obtain ⟨j, hj, e⟩ := List.getElem_of_mem ha
    have := nodeOf_rows hs hj
    rw [e] at this
    exact this
theorem graph_ok {P : Nat → Prop} {w : World} {N : PNet} {v : Value} (hv : NetV P w v N) (hN : chk N = true) (hs : Small N) : SysOk (gifc v) (gsys N) w := by
  have hv := hv.mono (Q := fun q => q < w.heap.size) (fun q _ hq => hq)
  have hto : ∀ x ∈ N, ∀ a ∈ x.arcs, 0 ≤ a.to ∧ a.to < 9223372036854775808 := fun x hx a ha => by
    have h3 := hN
    unfold chk at h3
    simp only [Bool.and_eq_true, decide_eq_true_eq] at h3
    have h4 := chkArc_to (List.all_eq_true.1 (List.all_eq_true.1 h3.1.2 x hx) a ha)
    omega
  refine ⟨methBegin v, methLook v, methNext v, nilLook v, nilNext v, Go.Proofs.enters_of Try.func74 (by kernel_rfl) rfl, Go.Proofs.enters_of Try.func75 (by kernel_rfl) rfl, Go.Proofs.enters_of Try.func76 (by kernel_rfl) rfl, Go.Proofs.enters_of Try.func79 (by kernel_rfl) rfl, small_graph hN hs, fun w' hb => ?_, fun w' s hb hz => ?_, fun w' s hb hz => ?_⟩
  · refine (beginFn w' v).mono fun e w2 ⟨h1, h2⟩ => ⟨?_, h2⟩
    rw [h1]
    have e0 : (⟨(encs [0]).toArray⟩ : ByteArray) = keyS 0 := by simp [keyS, encs]
    rw [e0]
    rfl
  · exact lookFn (hv.up (Keep.below hb)) hz
  · refine (nextFn w' v s).mono fun e w2 ⟨h1, f, h2, b0, b1, h3, h4, h5, _, _⟩ => ⟨h1, f, h2, _, h3, fun n n₀ w3 hb0 hn hb3 => ?_⟩
    have h := next1 n n₀ (f := f) (hv.up (Keep.below (hb.trans ((h1.trans (hb3.mono h1.size)).mono hb.size)))) (fun k hk => Nat.lt_of_lt_of_le hk hb0) hn hz hs hto (h4.belowAll hb3) (h5.belowAll hb3)
    have hl : ((gsys N).next s).length = ((nodeOf N s.data.toList).getD zeroN).arcs.length := by
      show (List.map gmv _).length = _
      rw [List.length_map, List.length_zipIdx]
    refine seq_imp (fun _ _ h => h.below) (fun pre x W0 W ⟨hj, vr, vw, q1, q2, q3⟩ => ?_) (fun ys h => by rw [hl]; exact h) (by rw [hl]; exact Nat.le_refl _) h
    have hj' : pre.length < ((gsys N).next s).length := by rw [hl]; exact hj
    have he : ((gsys N).next s)[pre.length] = gmv (((nodeOf N s.data.toList).getD zeroN).arcs[pre.length], pre.length) := zip_at rfl hj' hj
    refine ⟨hj', vr, vw, ?_, ?_, ?_⟩
    · rw [he]; exact q1
    · rw [he]; exact q2
    · rw [he]; exact q3
end Go.Proofs.Ytpednhcfkjjcpaa.G
end
section
/- A graph's system tells no more than a system. -/
namespace Go.Proofs.Ytpednhcfkjjcpaa.G
open Go.RowKit Go.Maps
set_option linter.unusedVariables false
set_option linter.unusedSimpArgs false

theorem least_some {l : List String} (h : l ≠ []) : ∃ m, Instr.least l = some m := by
  cases l with
  | nil => exact absurd rfl h
  | cons a l => exact ⟨_, rfl⟩
theorem least_or {l : List String} (p : String → Bool) (f : String → String) (h : l ≠ []) : ∃ m, (Instr.least (l.partition p).2 <|> Instr.least ((l.partition p).1.map f)) = some m := by
  rw [List.partition_eq_filter_filter]
  by_cases he : l.filter (not ∘ p) = []
  · have hp : l.filter p ≠ [] := by
      intro hp
      obtain ⟨a, ha⟩ := List.exists_mem_of_ne_nil l h
      rw [List.filter_eq_nil_iff] at he hp
      have h1 := he a ha
      have h2 := hp a ha
      simp at h1 h2
      rw [h1] at h2
      cases h2
    obtain ⟨m, hm⟩ := least_some (l := (l.filter p).map f) (by simpa using hp)
    refine ⟨m, ?_⟩
    simp only [he]
    rw [hm]
    rfl
  · obtain ⟨m, hm⟩ := least_some he
    refine ⟨m, ?_⟩
    simp only
    rw [hm]
    rfl
theorem missing_some {want : Array (String × TypeId)} {got : Array Method} (h : (want.toList.filter fun (name, sig) => !got.any fun m => m.name == name && m.sig == sig).isEmpty = false) : ∃ m, Instr.missingMethod want got = some m := by
  unfold Instr.missingMethod
  simp only
  exact least_or _ _ (by intro e; rw [List.map_eq_nil_iff] at e; rw [e] at h; cases h)
theorem no_static (v : Value) (w : World) : (Instr.typeAssert (.iface 83 (.agg #[v])) 36 53 true).run Try.prog w = .ok (.tuple #[.nilIface, .bool false]) w := by
  unfold Instr.typeAssert
  simp [go_sem, Try.underlying53]
  obtain ⟨m, hm⟩ := missing_some (want := #[("Begin", 65), ("Ever", 140), ("Here", 140), ("Live", 136), ("Look", 93), ("Next", 124)]) (got := Try.t83.methods) (by kernel_rfl)
  rw [hm]
  simp [go_sem]
end Go.Proofs.Ytpednhcfkjjcpaa.G
end
section
/- The statements' little graph, searched: by evaluation; and the walk of known. -/

namespace Go.Proofs.Ytpednhcfkjjcpaa.G
open Go.RowKit Go.Maps
set_option linter.unusedVariables false
set_option linter.unusedSimpArgs false

/-- A search, so many steps. -/
def goF (S : Sys) (o : POpt) (ch : List ByteArray → ByteArray → List PMove) : Nat → Sr → Option PFound
  | 0, _ => none
  | f + 1, x => match stepP S o ch x with
    | .inl y => goF S o ch f y
    | .inr r => some r
def runF (S : Sys) (o : POpt) (ch : List ByteArray → ByteArray → List PMove) (f : Nat) : Option PFound := match startP S o ch with
  | .inl x => goF S o ch f x
  | .inr r => some r
theorem goF_ends {S : Sys} {o : POpt} {ch : List ByteArray → ByteArray → List PMove} : ∀ {f : Nat} {x : Sr} {r : PFound}, goF S o ch f x = some r → ∃ y, Stp S o ch x y ∧ stepP S o ch y = .inr r
  | 0, _, _, h => by cases h
  | f + 1, x, r, h => by
    rw [goF] at h
    split at h
    · rename_i y e
      obtain ⟨z, h1, h2⟩ := goF_ends h
      exact ⟨z, h1.head e, h2⟩
    · rename_i q e
      injection h with h
      subst h
      exact ⟨x, .refl _, e⟩
theorem runF_ends {S : Sys} {o : POpt} {ch : List ByteArray → ByteArray → List PMove} {f : Nat} {r : PFound} (h : runF S o ch f = some r) : EndsIn S o ch r := by
  unfold runF at h
  split at h
  · rename_i x e
    obtain ⟨y, h1, h2⟩ := goF_ends h
    exact .inr ⟨x, y, e, h1, h2⟩
  · rename_i q e
    injection h with h
    subst h
    exact .inl e
def duoN : PNet := [⟨[⟨0, 1, 0, [], [], 0⟩], 0, false, false, false⟩, ⟨[⟨0, 0, 1, [], [], 0⟩], 0, false, false, false⟩]
theorem duo_chk : chk duoN = true := by decide
theorem duo_small : Small duoN := by
  have key : ∀ x ∈ duoN, ∀ a ∈ x.arcs, a.reads.length ≤ 2000000 ∧ a.writes.length ≤ 2000000 := by decide
  exact ⟨by decide, by decide, fun i hi j hj => key _ (List.getElem_mem hi) _ (List.getElem_mem hj)⟩
def duoO (n : Int) : POpt := ⟨9, n, 9, false, false, false, 0⟩
theorem duo_found {r : PFound} (h : EndsIn (gsys duoN) (duoO 9) (allP (gsys duoN)) r) : r.verdict = 2 ∧ r.why = 1 ∧ r.path.length = 2 := by
  have key : ((runF (gsys duoN) (duoO 9) (allP (gsys duoN)) 9).map fun r => decide (r.verdict = 2) && decide (r.why = 1) && decide (r.path.length = 2)) = some true := by decide +kernel
  cases he : runF (gsys duoN) (duoO 9) (allP (gsys duoN)) 9 with
  | none => rw [he] at key; cases key
  | some q =>
    rw [he] at key
    simp only [Option.map_some, Option.some.injEq, Bool.and_eq_true, decide_eq_true_eq] at key
    rw [EndsIn.same h (runF_ends he)]
    exact ⟨key.1.1, key.1.2, key.2⟩
theorem duo_limit {r : PFound} (h : EndsIn (gsys duoN) (duoO 1) (allP (gsys duoN)) r) : r.verdict = 3 ∧ r.why = 104 := by
  have key : ((runF (gsys duoN) (duoO 1) (allP (gsys duoN)) 9).map fun r => decide (r.verdict = 3) && decide (r.why = 104)) = some true := by decide +kernel
  cases he : runF (gsys duoN) (duoO 1) (allP (gsys duoN)) 9 with
  | none => rw [he] at key; cases key
  | some q =>
    rw [he] at key
    simp only [Option.map_some, Option.some.injEq, Bool.and_eq_true, decide_eq_true_eq] at key
    rw [EndsIn.same h (runF_ends he)]
    exact key
/-- So many are reached in a graph, at most. -/
theorem few_graph {N : PNet} (hN : chk N = true) : FewS (gsys N) N.length := by
  have hN' := hN
  unfold chk at hN'
  simp only [Bool.and_eq_true, decide_eq_true_eq] at hN'
  have hr : ∀ s, Rch (gsys N) s → ∃ k, k < N.length ∧ s = keyS k := fun s h => by
    induction h with
    | beg => exact ⟨0, by omega, rfl⟩
    | step hs hm hb ih =>
      obtain ⟨⟨a, j⟩, hk, rfl⟩ := List.mem_map.1 hm
      have ha := List.fst_mem_of_mem_zipIdx hk
      cases hn : nodeOf N (_ : ByteArray).data.toList with
      | none => rw [hn] at ha; cases ha
      | some x =>
        obtain ⟨i, hi, rfl⟩ := nodeOf_mem hn
        rw [hn] at ha
        have h4 := chkArc_to (List.all_eq_true.1 (List.all_eq_true.1 hN'.1.2 _ (List.getElem_mem hi)) a ha)
        have hb : a.bad = 0 := hb
        refine ⟨a.to.toNat, by omega, ?_⟩
        show toS a = _
        unfold toS
        rw [if_pos hb]
        rfl
  intro l hn hl
  have hc : ∀ l : List ByteArray, l.Nodup → (∀ s ∈ l, Rch (gsys N) s) → ∃ ks : List Nat, ks.length = l.length ∧ ks.Nodup ∧ (∀ k ∈ ks, k < N.length ∧ keyS k ∈ l) := fun l => by
    induction l with
    | nil => exact fun _ _ => ⟨[], rfl, List.nodup_nil, fun k hk => by cases hk⟩
    | cons s l ih =>
      intro h1 h2
      rw [List.nodup_cons] at h1
      obtain ⟨ks, q1, q2, q3⟩ := ih h1.2 fun t ht => h2 t (List.mem_cons_of_mem _ ht)
      obtain ⟨k, hk, rfl⟩ := hr s (h2 s List.mem_cons_self)
      refine ⟨k :: ks, by rw [List.length_cons, List.length_cons, q1], List.nodup_cons.2 ⟨fun hin => h1.1 (q3 k hin).2, q2⟩, fun j hj => ?_⟩
      rcases List.mem_cons.1 hj with rfl | hj
      · exact ⟨hk, List.mem_cons_self⟩
      · exact ⟨(q3 j hj).1, List.mem_cons_of_mem _ (q3 j hj).2⟩
  obtain ⟨ks, q1, q2, q3⟩ := hc l hn hl
  have := nodup_bound N.length ks q2 fun k hk => (q3 k hk).1
  omega
def arcL (p t b : Int) : List Value := [.int .i64 p, .int .i64 t, .int .i64 b, .slice none 0 0, .slice none 0 0, .int .u64 0]
theorem arc_lit {base g : Nat} {W : World} {p t b : Int} (h : Holds W g 86 (arcL p t b)) (hb : base ≤ g) : ArcsV (From base) W (.slice (some ⟨g, 0, none⟩) 1 1) [⟨p, t, b, [], [], 0⟩] :=
  ⟨_, RowL.of_owns (owns_lit (base := base) h hb rfl (by omega)) fun _ h => h, _, [], (List.append_nil _).symm, ⟨_, _, rfl, RowL.nil _ _ _, RowL.nil _ _ _⟩, rfl⟩
theorem duo_net {base bn : Nat} {W : World} {va vb : Value} (hN : Holds W bn 81 [va, .int .u64 0, .bool false, .bool false, .bool false, vb, .int .u64 0, .bool false, .bool false, .bool false]) (hb : base ≤ bn)
    (ha : ArcsV (From base) W va [⟨0, 1, 0, [], [], 0⟩]) (hc : ArcsV (From base) W vb [⟨0, 0, 1, [], [], 0⟩]) : NetV (From base) W (.slice (some ⟨bn, 0, none⟩) 2 2) duoN := by
  refine ⟨_, RowL.of_holds (n := 2) hN hb (by omega) rfl, ?_⟩
  exact ⟨[va, .int .u64 0, .bool false, .bool false, .bool false], [vb, .int .u64 0, .bool false, .bool false, .bool false], rfl, ⟨va, rfl, ha⟩, _, [], (List.append_nil _).symm, ⟨vb, rfl, hc⟩, rfl⟩
def TwoPost (w : World) (e : Ending) (w' : World) : Prop := Below w.heap.size w w' ∧ ∃ v, e = .returned (.agg #[v]) ∧ NetV (From w.heap.size) w' v duoN
theorem twoFn (w : World) : Calls Try.prog 20 #[] w (TwoPost w) := by
  obtain ⟨w5, hw5⟩ : ∃ W, W = (((w.alloc (.cells #[.slice none 0 0] 24)).alloc (.cells (arcL 0 1 0).toArray 86)).alloc (.cells (arcL 0 0 1).toArray 86)).alloc (.cells #[.slice (some ⟨w.heap.size + 1, 0, none⟩) 1 1, .int .u64 0, .bool false, .bool false, .bool false, .slice (some ⟨w.heap.size + 1 + 1, 0, none⟩) 1 1, .int .u64 0, .bool false, .bool false, .bool false] 81) := ⟨_, rfl⟩
  have hb5 : Below w.heap.size w w5 := by rw [hw5]; exact ((((Below.refl _ _).alloc (Nat.le_refl _) _).alloc (by simp) _).alloc (by simp; omega) _).alloc (by simp; omega) _
  have h0 : Holds w5 w.heap.size 24 [.slice none 0 0] := by rw [hw5]; exact (((Holds.new w 24 #[.slice none 0 0]).alloc _).alloc _).alloc _
  have h1 : Holds w5 (w.heap.size + 1) 86 (arcL 0 1 0) := by
    have h := ((Holds.new (w.alloc (.cells #[.slice none 0 0] 24)) 86 (arcL 0 1 0).toArray).alloc (.cells (arcL 0 0 1).toArray 86)).alloc (.cells #[.slice (some ⟨w.heap.size + 1, 0, none⟩) 1 1, .int .u64 0, .bool false, .bool false, .bool false, .slice (some ⟨w.heap.size + 1 + 1, 0, none⟩) 1 1, .int .u64 0, .bool false, .bool false, .bool false] 81)
    simp only [World.size_alloc] at h
    rw [hw5]; exact h
  have h2 : Holds w5 (w.heap.size + 1 + 1) 86 (arcL 0 0 1) := by
    have h := (Holds.new ((w.alloc (.cells #[.slice none 0 0] 24)).alloc (.cells (arcL 0 1 0).toArray 86)) 86 (arcL 0 0 1).toArray).alloc (.cells #[.slice (some ⟨w.heap.size + 1, 0, none⟩) 1 1, .int .u64 0, .bool false, .bool false, .bool false, .slice (some ⟨w.heap.size + 1 + 1, 0, none⟩) 1 1, .int .u64 0, .bool false, .bool false, .bool false] 81)
    simp only [World.size_alloc] at h
    rw [hw5]; exact h
  have h3 : Holds w5 (w.heap.size + 1 + 1 + 1) 81 [.slice (some ⟨w.heap.size + 1, 0, none⟩) 1 1, .int .u64 0, .bool false, .bool false, .bool false, .slice (some ⟨w.heap.size + 1 + 1, 0, none⟩) 1 1, .int .u64 0, .bool false, .bool false, .bool false] := by
    have h := Holds.new (((w.alloc (.cells #[.slice none 0 0] 24)).alloc (.cells (arcL 0 1 0).toArray 86)).alloc (.cells (arcL 0 0 1).toArray 86)) 81 #[.slice (some ⟨w.heap.size + 1, 0, none⟩) 1 1, .int .u64 0, .bool false, .bool false, .bool false, .slice (some ⟨w.heap.size + 1 + 1, 0, none⟩) 1 1, .int .u64 0, .bool false, .bool false, .bool false]
    simp only [World.size_alloc] at h
    rw [hw5]; exact h
  have H0 := Lib.hid h0
  have HN := Lib.hid (duo_net (base := w.heap.size + 1) h3 (by omega) (arc_lit h1 (Nat.le_refl _)) (arc_lit h2 (by omega)))
  have HB := Lib.hid hb5
  clear hb5 h0 h1 h2 h3
  unfold arcL at hw5
  go_enter Try.func20, Try.ntmps20
  go_wp2_with (refine wpList_storeB rfl 24 _ _ rfl w.heap.size 0 [.slice (some ⟨w.heap.size + 1 + 1 + 1, 0, none⟩) 2 2] rfl rfl (by rw [← hw5]; exact H0.out) (Nat.le_of_ble_eq_true rfl) sz_Net rfl ?_)
  rw [← hw5]
  clear hw5
  refine Named.mk (fun w6 hw6 => ?_)
  have hf6 : Fr (fun q => q = w.heap.size) w5 w6 := by rw [hw6]; exact Fr.setRX _ _ 0 _
  have h06 : Hid (Holds w6 w.heap.size 24 [.slice (some ⟨w.heap.size + 1 + 1 + 1, 0, none⟩) 2 2]) := H0.out.stored hw6 (Nat.le_of_ble_eq_true rfl)
  have HF : Hid (TwoPost w (.returned (.agg #[.slice (some ⟨w.heap.size + 1 + 1 + 1, 0, none⟩) 2 2])) w6) := by
    refine ⟨HB.out.trans (hf6.to_below HB.out.size fun q hq e => by have e : q = w.heap.size := e; omega), _, rfl, ?_⟩
    refine (HN.out.up (w' := w6) fun q hq hs => hf6.block q hs fun e => ?_).mono (Wide.from (by omega))
    have e : q = w.heap.size := e
    have hq : w.heap.size + 1 ≤ q := hq
    omega
  clear hw6 hf6 HN HB H0
  go_wp2
  refine bodyPost_ret (outBox Try.results20 h06.out rfl _ Try.underlying24 rfl sz_Net) rfl ?_
  exact HF.out
/-- A box for what is told. -/
theorem found_new {w3 w4 : World} {cs : List Value} (hl : cs.length = 7) (h : w4 = Go.Proofs.Ytpednhcfkjjcpaa.setR (w3.alloc (.cells #[.int .i64 0, .int .i64 0, .slice none 0 0, .int .i64 0, .int .i64 0, .int .i64 0, .int .i64 0] 30)) w3.heap.size 0 cs) : Below w3.heap.size w3 w4 ∧ Holds w4 w3.heap.size 30 cs := by
  have h0 : Holds (w3.alloc (.cells #[.int .i64 0, .int .i64 0, .slice none 0 0, .int .i64 0, .int .i64 0, .int .i64 0, .int .i64 0] 30)) w3.heap.size 30 [.int .i64 0, .int .i64 0, .slice none 0 0, .int .i64 0, .int .i64 0, .int .i64 0, .int .i64 0] := Holds.new _ _ _
  have h1 := h0.stored h (by rw [hl]; decide)
  have hb : Below w3.heap.size w3 (w3.alloc (.cells #[.int .i64 0, .int .i64 0, .slice none 0 0, .int .i64 0, .int .i64 0, .int .i64 0, .int .i64 0] 30)) := (Below.refl _ _).alloc (Nat.le_refl _) _
  refine ⟨?_, ?_⟩
  · have hf : Fr (fun q => q = w3.heap.size) (w3.alloc (.cells #[.int .i64 0, .int .i64 0, .slice none 0 0, .int .i64 0, .int .i64 0, .int .i64 0, .int .i64 0] 30)) w4 := by rw [h]; exact Fr.setRX _ _ 0 _
    exact hb.trans (hf.to_below (by simp) fun q hq e => by have e : q = w3.heap.size := e; omega)
  · rw [hl] at h1
    simpa using h1
theorem found_one {r : PFound} {a : Option Addr} {c : Nat} : ([.int .i64 r.verdict, .int .i64 r.why, .slice a r.path.length c, .int .i64 (-1), .int .i64 (r.states : Int), .int .i64 (r.moves : Int), .int .i64 (r.deep : Int)] : List Value).all (·.oneCell') = true := by simp [Value.oneCell']
set_option maxHeartbeats 4000000 in
set_option maxRecDepth 100000 in
theorem knownFn21 (w : World) : Calls Try.prog 7 #[] w (Yes w) := by
  go_enter Try.func7, Try.ntmps7
  go_wp2_with (fail)
  refine (twoFn w).mono ?_
  rintro e w1 ⟨hb1, v1, rfl, hv1⟩
  have HB1 := Lib.hid hb1
  have HV1 := Lib.hid hv1
  clear hb1 hv1
  go_wp2_with (fail)
  refine (ofFn HV1.out duo_small).mono ?_
  rintro e w2 ⟨hb2, h2⟩
  rw [if_pos duo_chk] at h2
  obtain ⟨v2, rfl, hv2⟩ := h2
  have HB2 : Hid (Below w.heap.size w w2) := HB1.out.trans (hb2.mono HB1.out.size)
  have HOK := Lib.hid (graph_ok hv2 duo_chk duo_small)
  clear hb2 hv2 HB1 HV1
  go_wp2_with (fail)
  refine (runFn (o := duoO 9) HOK.out (no_static _) (by decide) (by decide) (by decide) rfl (few_graph duo_chk) (by decide)).mono ?_
  rintro e w3 ⟨hb3, r, v, hr, rfl, vq, rfl, hvq⟩
  have HR := Lib.hid (duo_found hr)
  obtain ⟨qa, qc, rfl⟩ : ∃ a c, vq = .slice a r.path.length c := by obtain ⟨f, h1, _⟩ := hvq; obtain ⟨a, c, h2, _⟩ := h1.form; exact ⟨a, c, h2⟩
  have HC3 := Lib.hid hb3
  clear hb3 hr hvq
  go_wp2_with (refine wpList_storeB rfl 30 _ _ rfl w3.heap.size 0 [.int .i64 r.verdict, .int .i64 r.why, .slice qa r.path.length qc, .int .i64 (-1), .int .i64 (r.states : Int), .int .i64 (r.moves : Int), .int .i64 (r.deep : Int)] rfl rfl (Holds.new _ _ _) (Nat.le_of_ble_eq_true rfl) sz_Found found_one ?_)
  refine Named.mk (fun w4 hw4 => ?_)
  obtain ⟨hb4, h4⟩ := found_new rfl hw4
  obtain ⟨b3, hb3⟩ : ∃ b, w3.heap.size = b := ⟨_, rfl⟩
  rw [hb3] at h4 ⊢
  have H4 := Lib.hid h4
  have HC4 : Hid (Below w2.heap.size w2 w4) := HC3.out.trans (hb4.mono HC3.out.size)
  clear hb4 h4 hw4 HC3 hb3
  go_wp2_with (fail)
  refine (runFn (o := duoO 1) (HOK.out.at HC4.out) (no_static _) (by decide) (by decide) (by decide) rfl (few_graph duo_chk) (by decide)).mono ?_
  rintro e w5 ⟨hb5, u, v, hu, rfl, vu, rfl, hvu⟩
  have HU := Lib.hid (duo_limit hu)
  obtain ⟨ua, uc, rfl⟩ : ∃ a c, vu = .slice a u.path.length c := by obtain ⟨f, h1, _⟩ := hvu; obtain ⟨a, c, h2, _⟩ := h1.form; exact ⟨a, c, h2⟩
  have HC5 : Hid (Below w2.heap.size w2 w5) := HC4.out.trans (hb5.mono HC4.out.size)
  replace H4 := Lib.hid (H4.out.belowAll hb5)
  clear hb5 hu hvu HC4
  go_wp2_with (refine wpList_storeB rfl 30 _ _ rfl w5.heap.size 0 [.int .i64 u.verdict, .int .i64 u.why, .slice ua u.path.length uc, .int .i64 (-1), .int .i64 (u.states : Int), .int .i64 (u.moves : Int), .int .i64 (u.deep : Int)] rfl rfl (Holds.new _ _ _) (Nat.le_of_ble_eq_true rfl) sz_Found found_one ?_)
  refine Named.mk (fun w6 hw6 => ?_)
  obtain ⟨hb6, h6⟩ := found_new rfl hw6
  obtain ⟨b5, hb5⟩ : ∃ b, w5.heap.size = b := ⟨_, rfl⟩
  replace H4 := Lib.hid (H4.out.belowAll hb6)
  rw [hb5] at h6 ⊢
  have HC6 : Hid (Below w.heap.size w w6) := HB2.out.trans ((HC5.out.trans (hb6.mono HC5.out.size)).mono HB2.out.size)
  have c30 := H4.out.cell 0
  have c31 := H4.out.cell 1
  have c32 := H4.out.cell 2
  have c33 := H4.out.cell 3
  have c50 := h6.cell 0
  have c51 := h6.cell 1
  obtain ⟨e1, e2, e3⟩ := HR.out
  obtain ⟨e4, e5⟩ := HU.out
  rw [e1] at c30
  rw [e2] at c31
  rw [e3] at c32
  rw [e4] at c50
  rw [e5] at c51
  simp only [List.getElem?_cons_zero, List.getElem?_cons_succ] at c30 c31 c32 c33 c50 c51
  clear hb6 h6 hw6 hb5 H4 HC5 HR HU e1 e2 e3 e4 e5 HOK HB2
  go_wp2
  go_ret
  exact ⟨rfl, HC6.out⟩
end Go.Proofs.Ytpednhcfkjjcpaa.G
end
