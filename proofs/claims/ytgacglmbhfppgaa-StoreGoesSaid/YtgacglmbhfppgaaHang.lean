/- The walk of (*store.Store).hang. -/
import Derived.Test.YtgacglmbhfppgaaFind
import Derived.StillTailTactics
namespace Go.Proofs.Ytgacglmbhfppgaa
open Go.RowKit

def HangPost (w : World) (B S : Nat) (a : Option Addr) (cap gh : Nat) (es : List Ent) (hs : List Nat) (st rm : Int) (bt : Nat) (e : Ending) (w' : World) : Prop :=
  e = .returned (.tuple #[]) ∧ StoreIs w' B S a cap gh es hs st rm bt ∧ Fr (fun k => k = gh ∨ ∃ g, a = some ⟨g, 0, none⟩ ∧ k = g) w w'

/-- An entry's link and a head are written. -/
theorem store_hung {w : World} {B S g cap gh : Nat} {es : List Ent} {hs : List Nat} {st rm : Int} {bt : Nat} (hS : StoreIs w B S (some ⟨g, 0, none⟩) cap gh es hs st rm bt) (n : Nat) (hn : n < es.length) (k : Nat)
    (hgS : g ≠ S) (hgh : g ≠ gh) (hSh : S ≠ gh) (q m : Nat) (x : Nat) :
    StoreIs (((w.drewN x).setCell ⟨g, n * 3 + 2, none⟩ (.int .i64 (q : Int))).setCell ⟨gh, k, none⟩ (.int .i64 (m : Int))) B S (some ⟨g, 0, none⟩) cap gh (es.set n (es[n].1, q)) (hs.set k m) st rm bt where
  box := by
    have h : Holds (w.drewN x) S 55 _ := hS.box
    have h2 := (h.far (p := ⟨g, n * 3 + 2, none⟩) (Ne.symm hgS) (.int .i64 (q : Int))).far (p := ⟨gh, k, none⟩) hSh (.int .i64 (m : Int))
    simpa using h2
  bS := hS.bS
  ents := by
    have h : (w.drewN x).ownsRow B 59 3 _ _ _ := hS.ents
    have h1 := (h.stored (n * 3 + 2) (.int .i64 (q : Int))).1
    rw [← flat_set es n hn q] at h1
    have h2 := (Fr.refl (fun i => i = gh) _).setCell (a := (w.drewN x).setCell ⟨g, n * 3 + 2, none⟩ (.int .i64 (q : Int))) (p := ⟨gh, k, none⟩) (fun _ => rfl) (.int .i64 (m : Int))
    have h3 := h2.owns h1 (fun i hi => by have : g = i := by simpa [Value.ownBlock] using hi
                                          subst this; exact hgh)
    simpa using h3
  bH := hS.bH
  heads := by
    have h : Holds (w.drewN x) gh 3 _ := hS.heads
    have h2 := (h.far (p := ⟨g, n * 3 + 2, none⟩) (Ne.symm hgh) (.int .i64 (q : Int))).put k (.int .i64 (m : Int))
    rw [List.map_set]
    exact h2

set_option maxHeartbeats 400000 in
theorem hang_any (w : World) (B S : Nat) (a : Option Addr) (cap gh : Nat) (es : List Ent) (hs : List Nat) (st rm : Int) (bt : Nat)
    (hS : StoreIs w B S a cap gh es hs st rm bt) (hpos : 0 < hs.length) (n : Nat) (hn : n < es.length) (hl : es.length ≤ 4611686018427387904) (hm : hs.length ≤ 4611686018427387904) (hle : ∀ q ∈ hs, q ≤ es.length) :
    Calls Try.prog 24 #[.pointer (some ⟨S, 0, none⟩), .int .i64 n] w
      (HangPost w B S a cap gh (es.set n (es[n].1, hs.getD (Ytgacglmbhfppgaa.hk es n % hs.length) 0)) (hs.set (Ytgacglmbhfppgaa.hk es n % hs.length) (n + 1)) st rm bt) := by
  have hlt := hOf_lt es[n].1
  have hSl := hS.box.lt
  have c0 := hS.box.cell 0
  have c1 := hS.box.cell 1
  simp at c0 c1
  obtain ⟨g, rfl, _, hg, hc, e0, e1, e2, hf⟩ := ent_cells hS.ents hn
  have f2 := hf (n * 3 + 2)
  have HK : Hid (Ytgacglmbhfppgaa.hk es n = hOf es[n].1) := by show hOf _ = _; rw [List.getD_eq_getElem?_getD, List.getElem?_eq_getElem hn]; rfl
  rw [HK.out]
  generalize hH : hOf es[n].1 = H at *
  have hb : H % hs.length < hs.length := Nat.mod_lt _ hpos
  have ch := hS.heads.cell (H % hs.length)
  have fh := hS.heads.free (H % hs.length)
  have hgS : g ≠ S := fun e => owns_ne_holds hS.ents hS.box (by decide) (by rw [← e]; rfl)
  have hgh : g ≠ gh := fun e => owns_ne_holds hS.ents hS.heads (by decide) (by rw [← e]; rfl)
  have hSh : S ≠ gh := hS.box.ne_of_type hS.heads (by decide)
  have hgl := hS.heads.lt
  rw [List.getElem?_map, List.getElem?_eq_getElem hb] at ch
  simp only [Option.map_some] at ch
  have hq : hs[H % hs.length] ≤ es.length := hle _ (List.getElem_mem hb)
  rw [show hs.getD (H % hs.length) 0 = hs[H % hs.length] from by rw [List.getD_eq_getElem?_getD, List.getElem?_eq_getElem hb]; rfl]
  generalize hs[H % hs.length] = q at *
  have HH := Lib.hid hH
  clear hH hf hle
  go_enter Try.func24, Try.ntmps24
  go_wp2
  go_quiet (fail)
  go_wp2
  go_region
  go_wp2
  go_end0
  refine ⟨rfl, ?_, ?_⟩
  · exact store_hung hS n hn _ hgS hgh hSh q (n + 1) _
  · exact (((Fr.refl _ w).drewN _).setCell (fun _ => .inr ⟨g, rfl, rfl⟩) _).setCell (fun _ => .inl rfl) _
end Go.Proofs.Ytgacglmbhfppgaa
