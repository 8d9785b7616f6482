/- The walk of All's closure over a store that nobody turns meanwhile: all the states come, with their numbers. -/
import Derived.Test.YtgacglmbhfppgaaNothing
namespace Go.Proofs.Ytgacglmbhfppgaa
open Go.RowKit Go.Shelf
attribute [local go_sem] Oper.semAt_some

def enumTo (L : List ByteArray) (k : Nat) : List (Nat × ByteArray) := (List.range k).map fun j => (j, L.getD j ByteArray.empty)
theorem enumTo_succ (L : List ByteArray) (k : Nat) : enumTo L (k + 1) = enumTo L k ++ [(k, L.getD k ByteArray.empty)] := by simp [enumTo, List.range_succ]
theorem enumTo_length (L : List ByteArray) (k : Nat) : (enumTo L k).length = k := by simp [enumTo]

/-- What a round keeps: what lies below n₀, and the box of the receiver. -/
def KpBox (n₀ Bs S : Nat) (A B : World) : Prop := Below n₀ A B ∧ (Holds A Bs 24 [.pointer (some ⟨S, 0, none⟩)] → Holds B Bs 24 [.pointer (some ⟨S, 0, none⟩)])
theorem KpBox.trans {n₀ Bs S : Nat} {A B C : World} (h : KpBox n₀ Bs S A B) (k : KpBox n₀ Bs S B C) : KpBox n₀ Bs S A C := ⟨h.1.trans k.1, fun x => k.2 (h.2 x)⟩
theorem KpBox.refl (n₀ Bs S : Nat) (A : World) : KpBox n₀ Bs S A A := ⟨Below.refl _ _, id⟩
theorem KpBox.book {n₀ Bs S : Nat} {w : World} (hn : n₀ ≤ w.heap.size) (W : World) (l : Nat) (o o' : Obj) (hl : w.heap.size ≤ l) (h : W.heap[l]? = some o) (hc : o.isCells = false) (hw : o.isWalk = false) : KpBox n₀ Bs S W (W.putObj l o') :=
  ⟨belowK_b hn W l o o' hl h hc hw, fun x => x.kept_row (grownBy_putObj' _ l o') (fun r e => by cases e; exact ⟨_, h, hc⟩)⟩

theorem StoreAt.of_below {w w' : World} {B S n₀ : Nat} {L : List ByteArray} {st rm : Int} {F : Nat → Prop} (h : StoreAt w B S L st rm F) (hb : Below n₀ w w') (hF : ∀ k, F k → k < n₀) : StoreAt w' B S L st rm F :=
  h.fr (G := fun k => n₀ ≤ k) ⟨hb.os, hb.tape, hb.output, hb.size, fun k _ hn => hb.block k (by omega)⟩ fun k hk hn => by have := hF k hk; omega

theorem box_cell {w : World} {g : Nat} {t : TypeId} {v : Value} (h : Holds w g t [v]) : w.cell? ⟨g, 0, none⟩ = some v := by rw [h.cell 0]; rfl

set_option maxRecDepth 100000 in
set_option maxHeartbeats 1000000 in
theorem all_stops (n Bs n₀ B S : Nat) (L : List ByteArray) (st rm : Int) (F : Nat → Prop) (w : World) (hS : StoreAt w B S L st rm F) (hl : L.length ≤ 1000000) (hF : ∀ k, F k → k < n₀) (_hn0 : n₀ ≤ w.heap.size) (hbox : Holds w Bs 24 [.pointer (some ⟨S, 0, none⟩)]) :
    SeqStopsK Fence.wide n Try.prog 25 #[.pointer (some ⟨Bs, 0, none⟩)] encs (KpBox n₀ Bs S) (fun ys => ys = enumTo L L.length) (fun pre => ∃ k, k ≤ L.length ∧ pre = enumTo L k) L.length w := fun l J Jx W hW _ _ hY h0 => by
  have hS0 := hS.below hW
  have hb0 := hbox.of_eq (hW.block _ hbox.lt)
  refine callsIn_of_wp Try.func25 rfl trivial ?_ rfl
  simp only [Try.ntmps25, List.size_toArray, List.length_cons, List.length_nil, Nat.reduceAdd, Nat.reduceSub, Array.replicate_succ, Array.replicate_zero, List.push_toArray, List.append_toArray, List.nil_append, List.cons_append]
  gi_wp2
  gi_loopw [3] (fun i wr => ∃ k : Nat, k ≤ L.length ∧ i = .int .i64 k ∧ J (enumTo L k) wr ∧ StoreAt wr B S L st rm F ∧ Holds wr Bs 24 [.pointer (some ⟨S, 0, none⟩)]) (fun i _ => L.length - (intOf i).toNat)
  case atStart => exact ⟨0, Nat.zero_le _, rfl, h0, hS0, hb0⟩
  case round =>
    obtain ⟨k, hk, rfl, hJ, hSr, hbr⟩ := hrel
    have c0 := box_cell hbr
    gi_wp2_with fail
    refine ⟨trivial, no_depth, ?_⟩
    refine (callsIn_wide.2 (len_at hSr)).mono ?_
    rintro e w' ⟨rfl, rfl⟩
    by_cases hlt : k < L.length
    · obtain ⟨a, cap, gh, es, hs, hSI, hI, hL, hm, hFF⟩ := hSr.ex
      have hke : k < es.length := by have := congrArg List.length hL; simp at this; omega
      have d0 := hSI.box.cell 0
      simp at d0
      obtain ⟨g, rfl, _, hg, hc, e0, _, _, _⟩ := ent_cells hSI.ents hke
      have HG : Hid (L.getD k ByteArray.empty = es[k].1) := by show _ = _; rw [← hL]; simp [hke]
      obtain ⟨fn, tmps, assign, body, hy, hR⟩ := hY (enumTo L k) (k, L.getD k ByteArray.empty) wr hJ (by rw [enumTo_length]; exact hlt)
      dsimp only [encs] at hy
      rw [HG.out] at hy
      have hll : es.length ≤ 1000000 := by have := congrArg List.length hL; simp at this; omega
      clear hL hFF
      gi_wp2_with fail
      refine ⟨no_depth, ?_⟩
      refine hR.mono ?_
      rintro e W3 (⟨rfl, hJ3, hk3, hk4⟩ | ⟨rfl, hJx3⟩)
      · gi_wp2
        go_roundw
        case rel => exact ⟨k + 1, by omega, by go_num, by rw [enumTo_succ]; exact hJ3, hSr.of_below hk3 hF, hk4 hbr⟩
        case measure => simp [intOf]; omega
      · gi_wp2
        refine bodyPost_ret (results_none rfl _ _ _) rfl ?_
        exact ⟨⟨_, rfl⟩, .inr ⟨_, ⟨k + 1, by omega, (enumTo_succ _ _).symm⟩, hJx3⟩⟩
    · gi_wp2
      go_end0
      have hke : k = L.length := by omega
      subst hke
      exact ⟨⟨_, rfl⟩, .inl ⟨_, rfl, hJ⟩⟩
end Go.Proofs.Ytgacglmbhfppgaa
