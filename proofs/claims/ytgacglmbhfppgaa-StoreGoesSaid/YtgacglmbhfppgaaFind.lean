/- The walk of (*store.Store).find. -/
import Derived.Test.YtgacglmbhfppgaaSep
import Derived.Test.YtgacglmbhfppgaaHash
import Derived.BigQuiet
import Derived.Deep.QuietTactic
namespace Go.Proofs.Ytgacglmbhfppgaa
open Go.RowKit

def FindPost (es : List Ent) (s : ByteArray) (w : World) (e : Ending) (w' : World) : Prop :=
  ∃ r : Int, e = .returned (.int .i64 r) ∧ FindIs es s r ∧ Below w.heap.size w w'

/-- An own row that is not empty has a head. -/
theorem owns_head {w : World} {base : Nat} {e : TypeId} {size n cap : Nat} {a : Option Addr} {xs : List Value} (h : w.ownsRow base e size (.slice a n cap) n xs) (hn : 0 < n) :
    ∃ g, a = some ⟨g, 0, none⟩ ∧ base ≤ g ∧ g < w.heap.size ∧ n ≤ cap ∧ cap ≤ maxLen ∧ (∀ j, j < n * size → w.cell? ⟨g, j, none⟩ = xs[j]?) ∧ ∀ j, w.frozen? ⟨g, j, none⟩ = false := by
  rcases h.2 with ⟨h0, h1⟩ | ⟨g, cap', cur, hv, hb, hg, hnc, hcm, hcs, ht⟩
  · omega
  · have hv' := hv
    injection hv with h1 h2 h3
    subst h1; subst h3
    exact ⟨g, rfl, hb, (Array.getElem?_eq_some_iff.1 hg).1, hnc, hcm, fun j hj => h.cellAt j hj, fun j => h.frozenAt j⟩

theorem ent_cells {w : World} {B : Nat} {a : Option Addr} {cap : Nat} {es : List Ent} (h : w.ownsRow B 59 3 (.slice a es.length cap) es.length (flat es)) {k : Nat} (hk : k < es.length) :
    ∃ g, a = some ⟨g, 0, none⟩ ∧ B ≤ g ∧ g < w.heap.size ∧ es.length ≤ cap ∧ w.cell? ⟨g, k * 3, none⟩ = some (.string es[k].1) ∧ w.cell? ⟨g, k * 3 + 1, none⟩ = some (.int .u64 (hOf es[k].1 : Int)) ∧
      w.cell? ⟨g, k * 3 + 2, none⟩ = some (.int .i64 (es[k].2 : Int)) ∧ ∀ j, w.frozen? ⟨g, j, none⟩ = false := by
  obtain ⟨g, ha, hb, hg, hc, _, hx, hf⟩ := owns_head h (by omega)
  obtain ⟨x, y, z⟩ := flat_get es k hk
  exact ⟨g, ha, hb, hg, hc, (hx _ (by omega)).trans x, (hx _ (by omega)).trans y, (hx _ (by omega)).trans z, hf⟩

theorem bytes_eq {a b : ByteArray} (h : (a.toList == b.toList) = true) : a = b := by
  have h' : a.toList = b.toList := by simpa using h
  rw [ByteArray.toList_eq, ByteArray.toList_eq] at h'
  exact ByteArray.ext (Array.ext' h')
theorem bytes_ne {a b : ByteArray} (h : (a.toList == b.toList) = false) : a ≠ b := by
  rintro rfl
  simp at h

/-- None of the entries from j on, nor any of another chain. -/
theorem miss_chain {es : List Ent} {m j q : Nat} {s : ByteArray} (hq : lastUp (fun j => hk es j % m == hOf s % m) j = q)
    (hn : ∀ i, j ≤ i → i < es.length → (es.getD i (ByteArray.empty, 0)).1 ≠ s) : ∀ i, q ≤ i → i < es.length → (es.getD i (ByteArray.empty, 0)).1 ≠ s := by
  intro i h1 h2
  by_cases h3 : j ≤ i
  · exact hn i h3 h2
  · have hf : (hk es i % m == hOf s % m) = false := by
      cases q with
      | zero => exact lastUp_none hq i (by omega)
      | succ k => exact (lastUp_some hq).2.2 i (by omega) (by omega)
    intro e
    unfold hk at hf
    rw [e] at hf
    simp at hf

theorem next_chain {es : List Ent} {hs : List Nat} (hI : Inv es.length es hs) {k : Nat} (hk' : k < es.length) {H : Nat} (hH : hk es k % hs.length = H % hs.length) :
    lastUp (fun j => hk es j % hs.length == H % hs.length) k = (es[k].2) := by
  have h := hI.nx k hk'
  rw [List.getD_eq_getElem?_getD, List.getElem?_eq_getElem hk'] at h
  rw [← hH]
  exact h.symm

set_option maxHeartbeats 400000 in
theorem find_any (w : World) (B S : Nat) (a : Option Addr) (cap gh : Nat) (es : List Ent) (hs : List Nat) (st rm : Int) (bt : Nat)
    (hS : StoreIs w B S a cap gh es hs st rm bt) (hI : Inv es.length es hs) (s : ByteArray) (hl : es.length ≤ 4611686018427387904) (hm : hs.length ≤ 4611686018427387904) :
    Calls Try.prog 22 #[.pointer (some ⟨S, 0, none⟩), .string s, .int .u64 (hOf s : Int)] w (FindPost es s w) := by
  have hlt := hOf_lt s
  have hpos := hI.pos
  have c0 := hS.box.cell 0
  have c1 := hS.box.cell 1
  have hSl := hS.box.lt
  simp at c0 c1
  have hb : hOf s % hs.length < hs.length := Nat.mod_lt _ hpos
  have ch := hS.heads.cell (hOf s % hs.length)
  have hd := hI.heads _ hb
  rw [List.getElem?_map, List.getElem?_eq_getElem hb] at ch
  rw [List.getD_eq_getElem?_getD, List.getElem?_eq_getElem hb] at hd
  simp only [Option.map_some] at ch
  simp only [Option.getD_some] at hd
  rw [hd] at ch
  have hle := lastUp_le (fun j => hk es j % hs.length == hOf s % hs.length) es.length
  generalize hq : lastUp (fun j => hk es j % hs.length == hOf s % hs.length) es.length = q at *
  generalize hh : hOf s = H at *
  have HQ := Lib.hid hq
  have HH := Lib.hid hh
  clear hh hq hd
  go_enter Try.func22, Try.ntmps22
  go_wp2
  go_step3
  go_wp2
  go_quiet (fail)
  go_wp2
  go_step3
  go_wp2
  go_loopw [7] (fun n wr => ∃ q j : Nat, n = .int .i64 ((q : Int) - 1) ∧ Hid (lastUp (fun j => hk es j % hs.length == H % hs.length) j = q) ∧ q ≤ es.length ∧ j ≤ es.length ∧ Hid (∀ i, j ≤ i → i < es.length → (es.getD i (ByteArray.empty, 0)).1 ≠ s) ∧ Below w.heap.size w wr) (fun n _ => (intOf n + 1).toNat)
  case atStart => exact ⟨q, es.length, rfl, HQ, hle, Nat.le_refl _, fun i h1 h2 => by omega, below_drewN (Below.refl _ _) _⟩
  case round =>
    obtain ⟨q, j, rfl, HQ, hqe, hje, HN, hB⟩ := hrel
    have HM : Hid (∀ i, q ≤ i → i < es.length → (es.getD i (ByteArray.empty, 0)).1 ≠ s) := by
      have h1 := HQ.out
      rw [← HH.out] at h1
      exact miss_chain h1 HN.out
    by_cases h0 : q = 0
    · subst h0
      go_wp2
      rw [Exit.noGoto_ret]
      go_ret
      exact ⟨-1, rfl, .inl ⟨rfl, fun i hi => HM.out i (by omega) hi⟩, hB⟩
    · obtain ⟨k, rfl⟩ := Nat.exists_eq_succ_of_ne_zero h0
      have hk : k < es.length := by omega
      obtain ⟨g, rfl, _, hg, hc, e0, e1, e2, _⟩ := ent_cells hS.ents hk
      have f0 := (hB.cell (p := ⟨g, k * 3, none⟩) hg).trans e0
      have f1 := (hB.cell (p := ⟨g, k * 3 + 1, none⟩) hg).trans e1
      have f2 := (hB.cell (p := ⟨g, k * 3 + 2, none⟩) hg).trans e2
      have d0 := (hB.cell (p := ⟨S, 0, none⟩) hSl).trans c0
      have HX : Hid (lastUp (fun j => Ytgacglmbhfppgaa.hk es j % hs.length == H % hs.length) k = es[k].2) := by
        refine next_chain hI hk ?_
        have := (lastUp_some HQ.out).1
        simpa using this
      have hn2 : es[k].2 ≤ k := by rw [← HX.out]; exact lastUp_le _ _
      have HS : Hid ((es.getD k (ByteArray.empty, 0)).1 = es[k].1) := by rw [List.getD_eq_getElem?_getD, List.getElem?_eq_getElem hk]; rfl
      clear c0 c1 e0 e1 e2
      go_wp2
      · rw [Exit.noGoto_ret]
        go_ret
        exact ⟨k, rfl, .inr ⟨k, hk, rfl, by rw [HS.out]; exact bytes_eq ‹_›⟩, hB.alloc hB.size _⟩
      · go_roundw
        case rel => exact ⟨es[k].2, k, rfl, HX, by omega, by omega, fun i h1 h2 => by
          by_cases e : i = k
          · subst e; rw [HS.out]; exact bytes_ne ‹_›
          · exact HM.out i (by omega) h2, hB.alloc hB.size _⟩
        case measure => simp [intOf]; omega
      · have hne : ¬ ((hOf es[k].1 : Int) = (H : Int)) := by assumption
        have HE : Hid (es[k].1 ≠ s) := fun e => hne (by rw [e, HH.out])
        go_roundw
        case rel => exact ⟨es[k].2, k, rfl, HX, by omega, by omega, fun i h1 h2 => by
          by_cases e : i = k
          · subst e; rw [HS.out]; exact HE.out
          · exact HM.out i (by omega) h2, hB.alloc hB.size _⟩
        case measure => simp [intOf]; omega
end Go.Proofs.Ytgacglmbhfppgaa
