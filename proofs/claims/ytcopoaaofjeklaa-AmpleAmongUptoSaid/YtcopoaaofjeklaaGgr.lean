/- A graph is a system. -/
import Derived.Test.YtcopoaaofjeklaaMa7
namespace Go.Proofs.Ytcopoaaofjeklaa.G
open Go.RowKit Go.Maps
set_option linter.unusedVariables false
set_option linter.unusedSimpArgs false

def gmv (p : PArc × Nat) : PMove := ⟨p.1.proc, (p.2 : Int), -1, -1, toS p.1, p.1.bad, p.1.reads, p.1.writes, p.1.turns⟩
def gsys (N : PNet) : Sys := ⟨keyS 0, fun s => (nodeOf N s.data.toList).getD zeroN, fun s => ((nodeOf N s.data.toList).getD zeroN).arcs.zipIdx.map gmv⟩
theorem seq_imp {F : Fence} {n : Nat} {P : Program} {g : Nat} {lb : Array Value} {encs : Value → Array Value} {Kp Kp' : World → World → Prop} {G G' : List Value → Value → World → World → Prop} {S S' Sp : List Value → Prop} {N N' : Nat} {w : World}
    (hKp : ∀ A B, Kp' A B → Kp A B) (hG : ∀ pre x W0 W, G pre x W0 W → G' pre x W0 W) (hS : ∀ ys, S ys → S' ys) (hN : N ≤ N') (h : SeqTells F n P g lb encs Kp G S Sp N w) : SeqTells F n P g lb encs Kp' G' S' Sp N' w := fun l J Jx W hW hJ hJx hY h0 =>
  (h l J Jx W hW hJ hJx (fun pre x W0 W1 a b c d e => let ⟨fn, tmps, assign, body, hy, hR⟩ := hY pre x W0 W1 a b c (hG _ _ _ _ d) (by omega); ⟨fn, tmps, assign, body, hy, hR.mono fun e w h => h.imp (fun ⟨q1, q2, q3⟩ => ⟨q1, q2, hKp _ _ q3⟩) id⟩) h0).mono fun e w' ⟨h1, h2⟩ => ⟨h1, h2.imp (fun ⟨xs, h3, h4⟩ => ⟨xs, hS _ h3, h4⟩) id⟩
theorem zip_at {l : List PArc} {L : List PMove} (h : L = l.zipIdx.map gmv) {k : Nat} (hk : k < L.length) (hk2 : k < l.length) : L[k] = gmv (l[k], k) := by
  subst h
  rw [List.getElem_map, List.getElem_zipIdx, Nat.zero_add]
theorem toS_size {a : PArc} (h : a.to.toNat ≤ 20000) : (toS a).size ≤ 1048576 := by
  unfold toS
  split
  · have := keyS_size h
    exact Nat.le_trans this (by omega)
  · show (0 : Nat) ≤ _
    omega
theorem small_graph {N : PNet} (hN : chk N = true) (hs : Small N) : SmallS (gsys N) := by
  have hto : ∀ x ∈ N, ∀ a ∈ x.arcs, 0 ≤ a.to ∧ a.to.toNat ≤ 20000 := fun x hx a ha => by
    have h3 := hN
    unfold chk at h3
    simp only [Bool.and_eq_true, decide_eq_true_eq] at h3
    have h4 := chkArc_to (List.all_eq_true.1 (List.all_eq_true.1 h3.1.2 x hx) a ha)
    omega
  refine ⟨?_, fun s _ m hm => ?_, fun s _ => ?_, fun s _ m hm => ?_⟩
  · have := keyS_size (n := 0) (by omega)
    show (keyS 0).size ≤ _
    omega
  · obtain ⟨⟨a, k⟩, hk, rfl⟩ := List.mem_map.1 hm
    have ha := List.fst_mem_of_mem_zipIdx hk
    cases h : nodeOf N s.data.toList with
    | none => rw [h] at ha; cases ha
    | some x =>
      obtain ⟨i, hi, rfl⟩ := nodeOf_mem h
      rw [h] at ha
      exact toS_size (hto _ (List.getElem_mem hi) a ha).2
  · show (List.map gmv _).length ≤ _
    rw [List.length_map, List.length_zipIdx]
    exact nodeOf_small hs _
  · obtain ⟨⟨a, k⟩, hk, rfl⟩ := List.mem_map.1 hm
    have ha := List.fst_mem_of_mem_zipIdx hk
    obtain ⟨j, hj, e⟩ := List.getElem_of_mem ha
    have := nodeOf_rows hs hj
    rw [e] at this
    exact this
end Go.Proofs.Ytcopoaaofjeklaa.G
