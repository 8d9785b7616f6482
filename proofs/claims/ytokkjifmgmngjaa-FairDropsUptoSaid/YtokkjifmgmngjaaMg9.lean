/- Fok, Ggr, Fof, joined. -/
import Derived.Test.YtokkjifmgmngjaaFnx
import Derived.Test.YtokkjifmgmngjaaGmv
import Derived.Test.YtokkjifmgmngjaaMg3
section
/- Copies of any system are a system. -/
namespace Go.Proofs.Ytokkjifmgmngjaa.G
open Go.RowKit Go.Maps
set_option linter.unusedVariables false
set_option linter.unusedSimpArgs false

/-- The sizes of what is told by a system whose copies are made. -/
structure TinyS (S : Sys) : Prop where
  beg : S.beg.size ≤ 1000000
  dsts : ∀ s, s.size ≤ 1048576 → ∀ m ∈ S.next s, m.dst.size ≤ 1000000
theorem enc_small {n : Nat} (h : n ≤ 20000) : (enc n).length ≤ 10 := enc_len64 (by omega)
theorem cmove_le {K k : Nat} (hk : k ≤ K) (hK : K ≤ 16) (g : Bool) (m : PMove) (h : m.dst.size ≤ 1000000) : (cmove K k g m).dst.size ≤ 1048576 := by
  unfold cmove
  split
  · show (joinS _ _).size ≤ _
    rw [joinS_size]
    have h1 := (cnum_le hk g m).1
    have h2 := enc_small (show cnum K k g m ≤ 20000 by omega)
    omega
  · exact Nat.le_trans h (by omega)
theorem cmove_rows (K k : Nat) (g : Bool) (m : PMove) : (cmove K k g m).reads = m.reads ∧ (cmove K k g m).writes = m.writes := by
  unfold cmove
  split <;> exact ⟨rfl, rfl⟩
theorem cnext_mem {S : Sys} {K : Nat} {s : ByteArray} {m : PMove} (h : m ∈ cnext S K s) : ∃ k x m', cstate K s = some (k, x) ∧ m' ∈ S.next x ∧ m = cmove K k (cgoes S k x) m' := by
  unfold cnext at h
  split at h
  · rename_i k x e
    obtain ⟨m', h1, h2⟩ := List.mem_map.1 h
    exact ⟨k, x, m', e, h1, h2.symm⟩
  · cases h
theorem csys_small {S : Sys} {K : Nat} (hS : SmallS S) (ht : TinyS S) (hK : K ≤ 16) : SmallS (csys S K) := by
  refine ⟨?_, fun s hs m hm => ?_, fun s hs => ?_, fun s hs m hm => ?_⟩
  · show (joinS 0 S.beg).size ≤ _
    rw [joinS_size]
    have := enc_small (n := 0) (by omega)
    have := ht.beg
    omega
  · obtain ⟨k, x, m', e, h1, rfl⟩ := cnext_mem hm
    have hz := cstate_size e
    exact cmove_le hz.2 hK _ _ (ht.dsts x (Nat.le_trans hz.1 hs) m' h1)
  · show (cnext S K s).length ≤ _
    unfold cnext
    split
    · rename_i k x e
      rw [List.length_map]
      exact hS.len x (Nat.le_trans (cstate_size e).1 hs)
    · simp
  · obtain ⟨k, x, m', e, h1, rfl⟩ := cnext_mem hm
    have hz := cstate_size e
    have hr := cmove_rows K k (cgoes S k x) m'
    rw [hr.1, hr.2]
    exact hS.reads x (Nat.le_trans hz.1 hs) m' h1
def cval (I : Ifc) (K : Nat) : Value := .agg #[.iface I.tid I.dyn, .int .i64 (K : Int)]
def cifc (I : Ifc) (K : Nat) : Ifc := ⟨64, cval I K, 55, 56, 57, 60⟩
theorem cmBegin (v : Value) (w : World) : (method 225 64 v "Begin").run Try.prog w = .ok (55, v) w := by kernel_rfl
theorem cmLook (v : Value) (w : World) : (method 225 64 v "Look").run Try.prog w = .ok (56, v) w := by kernel_rfl
theorem cmNext (v : Value) (w : World) : (method 225 64 v "Next").run Try.prog w = .ok (57, v) w := by kernel_rfl
theorem cnLook (v : Value) (w : World) : (nilAhead 225 64 v "Look").run Try.prog w = .ok (some false) w := by kernel_rfl
theorem cnNext (v : Value) (w : World) : (nilAhead 225 64 v "Next").run Try.prog w = .ok (some false) w := by kernel_rfl
theorem copies_ok {I : Ifc} {S : Sys} {w : World} {K : Nat} (hS : SysOk I S w) (ht : TinyS S) (hK : K ≤ 16) : SysOk (cifc I K) (csys S K) w := by
  refine ⟨cmBegin _, cmLook _, cmNext _, cnLook _, cnNext _, Go.Proofs.enters_of Try.func55 (by kernel_rfl) rfl, Go.Proofs.enters_of Try.func56 (by kernel_rfl) rfl, Go.Proofs.enters_of Try.func57 (by kernel_rfl) rfl, Go.Proofs.enters_of Try.func60 (by kernel_rfl) rfl, csys_small hS.small ht hK, fun w' hb => ?_, fun w' s hb hz => ?_, fun w' s hb hz => ?_⟩
  · exact cbeginFn (hS.at hb)
  · exact clookFn (hS.at hb) hz
  · refine (cnextFn w' s).mono fun e w2 ⟨h1, b0, b1, h2, h3, h4⟩ => ⟨h1, _, h2, _, rfl, fun n n₀ w3 hb0 hn hb3 => ?_⟩
    exact cnext1 n n₀ hS hb0 (hb.trans ((h1.trans (hb3.mono h1.size)).mono hb.size)) hn hz ht.dsts hK (h3.belowAll hb3) (h4.belowAll hb3)
end Go.Proofs.Ytokkjifmgmngjaa.G
end
section
/- A graph is a system. -/
namespace Go.Proofs.Ytokkjifmgmngjaa.G
open Go.RowKit Go.Maps
set_option linter.unusedVariables false
set_option linter.unusedSimpArgs false

def gmv (p : PArc × Nat) : PMove := ⟨p.1.proc, (p.2 : Int), -1, -1, toS p.1, p.1.bad, p.1.reads, p.1.writes, p.1.turns⟩
def gsys (N : PNet) : Sys := ⟨keyS 0, fun s => (nodeOf N s.data.toList).getD zeroN, fun s => ((nodeOf N s.data.toList).getD zeroN).arcs.zipIdx.map gmv⟩
def gifc (v : Value) : Ifc := ⟨53, .agg #[v], 42, 43, 44, 47⟩
theorem seq_imp {F : Fence} {n : Nat} {P : Program} {g : Nat} {lb : Array Value} {encs : Value → Array Value} {Kp Kp' : World → World → Prop} {G G' : List Value → Value → World → World → Prop} {S S' Sp : List Value → Prop} {N N' : Nat} {w : World}
    (hKp : ∀ A B, Kp' A B → Kp A B) (hG : ∀ pre x W0 W, G pre x W0 W → G' pre x W0 W) (hS : ∀ ys, S ys → S' ys) (hN : N ≤ N') (h : SeqTells F n P g lb encs Kp G S Sp N w) : SeqTells F n P g lb encs Kp' G' S' Sp N' w := fun l J Jx W hW hJ hJx hY h0 =>
  (h l J Jx W hW hJ hJx (fun pre x W0 W1 a b c d e => let ⟨fn, tmps, assign, body, hy, hR⟩ := hY pre x W0 W1 a b c (hG _ _ _ _ d) (by omega); ⟨fn, tmps, assign, body, hy, hR.mono fun e w h => ⟨h.1, h.2.imp (fun ⟨q1, q2, q3⟩ => ⟨q1, q2, hKp _ _ q3⟩) id⟩⟩) h0).mono fun e w' ⟨h1, h2⟩ => ⟨h1, h2.imp (fun ⟨xs, h3, h4⟩ => ⟨xs, hS _ h3, h4⟩) id⟩
theorem zip_at {l : List PArc} {L : List PMove} (h : L = l.zipIdx.map gmv) {k : Nat} (hk : k < L.length) (hk2 : k < l.length) : L[k] = gmv (l[k], k) := by
  subst h
  rw [List.getElem_map, List.getElem_zipIdx, Nat.zero_add]
theorem toS_size {a : PArc} (h : a.to.toNat ≤ 20000) : (toS a).size ≤ 1048576 := by
  unfold toS
  split
  · have := keyS_size h
    exact Nat.le_trans this (by omega)
  · show (0 : Nat) ≤ _
    omega
theorem small_graph {N : PNet} (hN : chk N = true) (hs : Small N) : SmallS (gsys N) := by
  have hto : ∀ x ∈ N, ∀ a ∈ x.arcs, 0 ≤ a.to ∧ a.to.toNat ≤ 20000 := fun x hx a ha => by
    have h3 := hN
    unfold chk at h3
    simp only [Bool.and_eq_true, decide_eq_true_eq] at h3
    have h4 := chkArc_to (List.all_eq_true.1 (List.all_eq_true.1 h3.1.2 x hx) a ha)
    omega
  refine ⟨?_, fun s _ m hm => ?_, fun s _ => ?_, fun s _ m hm => ?_⟩
  · have := keyS_size (n := 0) (by omega)
    show (keyS 0).size ≤ _
    omega
  · obtain ⟨⟨a, k⟩, hk, rfl⟩ := List.mem_map.1 hm
    have ha := List.fst_mem_of_mem_zipIdx hk
    cases h : nodeOf N s.data.toList with
    | none => rw [h] at ha; cases ha
    | some x =>
      obtain ⟨i, hi, rfl⟩ := nodeOf_mem h
      rw [h] at ha
      exact toS_size (hto _ (List.getElem_mem hi) a ha).2
  · show (List.map gmv _).length ≤ _
    rw [List.length_map, List.length_zipIdx]
    exact nodeOf_small hs _
  · obtain ⟨⟨a, k⟩, hk, rfl⟩ := List.mem_map.1 hm
    have ha := List.fst_mem_of_mem_zipIdx hk
    obtain ⟨j, hj, e⟩ := List.getElem_of_mem ha
    have := nodeOf_rows hs hj
    rw [e] at this
    exact this
theorem graph_ok {P : Nat → Prop} {w : World} {N : PNet} {v : Value} (hv : NetV P w v N) (hN : chk N = true) (hs : Small N) : SysOk (gifc v) (gsys N) w := by
  have hv := hv.mono (Q := fun q => q < w.heap.size) (fun q _ hq => hq)
  have hto : ∀ x ∈ N, ∀ a ∈ x.arcs, 0 ≤ a.to ∧ a.to < 9223372036854775808 := fun x hx a ha => by
    have h3 := hN
    unfold chk at h3
    simp only [Bool.and_eq_true, decide_eq_true_eq] at h3
    have h4 := chkArc_to (List.all_eq_true.1 (List.all_eq_true.1 h3.1.2 x hx) a ha)
    omega
  refine ⟨methBegin v, methLook v, methNext v, nilLook v, nilNext v, Go.Proofs.enters_of Try.func42 (by kernel_rfl) rfl, Go.Proofs.enters_of Try.func43 (by kernel_rfl) rfl, Go.Proofs.enters_of Try.func44 (by kernel_rfl) rfl, Go.Proofs.enters_of Try.func47 (by kernel_rfl) rfl, small_graph hN hs, fun w' hb => ?_, fun w' s hb hz => ?_, fun w' s hb hz => ?_⟩
  · refine (beginFn w' v).mono fun e w2 ⟨h1, h2⟩ => ⟨?_, h2⟩
    rw [h1]
    have e0 : (⟨(encs [0]).toArray⟩ : ByteArray) = keyS 0 := by simp [keyS, encs]
    rw [e0]
    rfl
  · exact lookFn (hv.up (Keep.below hb)) hz
  · refine (nextFn w' v s).mono fun e w2 ⟨h1, f, h2, b0, b1, h3, h4, h5, _, _⟩ => ⟨h1, f, h2, _, h3, fun n n₀ w3 hb0 hn hb3 => ?_⟩
    have h := next1 n n₀ (f := f) (hv.up (Keep.below (hb.trans ((h1.trans (hb3.mono h1.size)).mono hb.size)))) (fun k hk => Nat.lt_of_lt_of_le hk hb0) hn hz hs hto (h4.belowAll hb3) (h5.belowAll hb3)
    have hl : ((gsys N).next s).length = ((nodeOf N s.data.toList).getD zeroN).arcs.length := by
      show (List.map gmv _).length = _
      rw [List.length_map, List.length_zipIdx]
    refine seq_imp (fun _ _ h => h.below) (fun pre x W0 W ⟨hj, vr, vw, q1, q2, q3⟩ => ?_) (fun ys h => by rw [hl]; exact h) (by rw [hl]; exact Nat.le_refl _) h
    have hj' : pre.length < ((gsys N).next s).length := by rw [hl]; exact hj
    have he : ((gsys N).next s)[pre.length] = gmv (((nodeOf N s.data.toList).getD zeroN).arcs[pre.length], pre.length) := zip_at rfl hj' hj
    refine ⟨hj', vr, vw, ?_, ?_, ?_⟩
    · rw [he]; exact q1
    · rw [he]; exact q2
    · rw [he]; exact q3
end Go.Proofs.Ytokkjifmgmngjaa.G
end
section
/- The walk of fair.Of at a graph's system. -/
namespace Go.Proofs.Ytokkjifmgmngjaa.G
open Go.RowKit Go.Maps
set_option linter.unusedVariables false
set_option linter.unusedSimpArgs false

theorem least_some {l : List String} (h : l ≠ []) : ∃ m, Instr.least l = some m := by
  cases l with
  | nil => exact absurd rfl h
  | cons a l => exact ⟨_, rfl⟩
theorem least_or {l : List String} (p : String → Bool) (f : String → String) (h : l ≠ []) : ∃ m, (Instr.least (l.partition p).2 <|> Instr.least ((l.partition p).1.map f)) = some m := by
  rw [List.partition_eq_filter_filter]
  by_cases he : l.filter (not ∘ p) = []
  · have hp : l.filter p ≠ [] := by
      intro hp
      obtain ⟨a, ha⟩ := List.exists_mem_of_ne_nil l h
      rw [List.filter_eq_nil_iff] at he hp
      have h1 := he a ha
      have h2 := hp a ha
      simp at h1 h2
      rw [h1] at h2
      cases h2
    obtain ⟨m, hm⟩ := least_some (l := (l.filter p).map f) (by simpa using hp)
    refine ⟨m, ?_⟩
    simp only [he]
    rw [hm]
    rfl
  · obtain ⟨m, hm⟩ := least_some he
    refine ⟨m, ?_⟩
    simp only
    rw [hm]
    rfl
theorem missing_some {want : Array (String × TypeId)} {got : Array Method} (h : (want.toList.filter fun (name, sig) => !got.any fun m => m.name == name && m.sig == sig).isEmpty = false) : ∃ m, Instr.missingMethod want got = some m := by
  unfold Instr.missingMethod
  simp only
  exact least_or _ _ (by intro e; rw [List.map_eq_nil_iff] at e; rw [e] at h; cases h)
theorem no_static (v : Value) (w : World) : (Instr.typeAssert (.iface 53 (.agg #[v])) 27 66 true).run Try.prog w = .ok (.tuple #[.nilIface, .bool false]) w := by
  unfold Instr.typeAssert
  simp [go_sem, Try.underlying66]
  obtain ⟨m, hm⟩ := missing_some (want := #[("Begin", 34), ("Ever", 120), ("Here", 120), ("Live", 121), ("Look", 42), ("Next", 77)]) (got := Try.t53.methods) (by kernel_rfl)
  rw [hm]
  simp [go_sem]
def FairOfPost (v : Value) (k : Nat) (w : World) (e : Ending) (w' : World) : Prop := Below w.heap.size w w' ∧ e = .returned (.tuple #[.iface 64 (cval (gifc v) k), .int .i64 0])
theorem fairOfFn {v : Value} {k : Nat} (hk : k ≤ 16) (w : World) : Calls Try.prog 7 #[.iface 53 (.agg #[v]), .int .i64 (k : Int)] w (FairOfPost v k w) := by
  have d1 : decide ((k : Int) < 0) = false := decide_eq_false (by omega)
  have d2 : decide ((16 : Int) < (k : Int)) = false := decide_eq_false (by omega)
  have e1 : ¬ (k : Int) < 0 := by omega
  have e2 : ¬ (16 : Int) < (k : Int) := by omega
  have HK := Lib.hid hk
  have hns := no_static v
  clear hk
  go_enter Try.func7, Try.ntmps7
  go_wp2
  go_ret2
  exact ⟨(Below.refl _ _).alloc (Nat.le_refl _) _, rfl⟩
end Go.Proofs.Ytokkjifmgmngjaa.G
end
