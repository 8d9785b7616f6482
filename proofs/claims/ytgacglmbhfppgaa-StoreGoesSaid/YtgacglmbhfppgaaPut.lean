/- The walk of (*store.Store).Put. -/
import Derived.Test.YtgacglmbhfppgaaHang
namespace Go.Proofs.Ytgacglmbhfppgaa
open Go.RowKit

def total (L : List ByteArray) : Nat := (L.map ByteArray.size).sum

/-- The store, as its user sees it: the states L, room for st states and rm bytes; F: its blocks. -/
structure StoreAt (w : World) (B S : Nat) (L : List ByteArray) (st rm : Int) (F : Nat → Prop) : Prop where
  st0 : 0 ≤ st ∧ st ≤ 9223372036854775807
  rm0 : 0 ≤ rm ∧ rm ≤ 9223372036854775807
  fits : (total L : Int) ≤ rm
  nodup : L.Nodup
  ex : ∃ a cap gh es hs, StoreIs w B S a cap gh es hs st rm (total L) ∧ Inv es.length es hs ∧ es.map (·.1) = L ∧ hs.length ≤ 2 * es.length + 64 ∧
    ∀ k, F k ↔ (k = S ∨ k = gh ∨ ∃ g, a = some ⟨g, 0, none⟩ ∧ k = g)

def PutOld (w : World) (i : Nat) (e : Ending) (w' : World) : Prop := e = .returned (.tuple #[.int .i64 i, .bool false, .int .i64 0]) ∧ Below w.heap.size w w'
def PutFull (w : World) (e : Ending) (w' : World) : Prop := e = .returned (.tuple #[.int .i64 0, .bool false, .int .i64 190]) ∧ Below w.heap.size w w'

section
variable {w : World} {B S : Nat} {a : Option Addr} {cap gh : Nat} {es : List Ent} {hs : List Nat} {st rm : Int} {bt : Nat}

theorem find_none (hS : StoreIs w B S a cap gh es hs st rm bt) (hI : Inv es.length es hs) (s : ByteArray) (hl : es.length ≤ 1000000) (hm : hs.length ≤ 2 * es.length + 64)
    (hno : ∀ i, i < es.length → (es.getD i (ByteArray.empty, 0)).1 ≠ s) :
    Calls Try.prog 22 #[.pointer (some ⟨S, 0, none⟩), .string s, .int .u64 (hOf s : Int)] w fun e w' => e = .returned (.int .i64 (-1)) ∧ Below w.heap.size w w' := by
  refine (find_any w B S a cap gh es hs st rm bt hS hI s (by omega) (by omega)).mono ?_
  rintro e w' ⟨r, rfl, hr, hb⟩
  rcases hr with ⟨rfl, _⟩ | ⟨i, hi, _, he⟩
  · exact ⟨rfl, hb⟩
  · exact absurd he (hno i hi)

theorem find_some (hS : StoreIs w B S a cap gh es hs st rm bt) (hI : Inv es.length es hs) (s : ByteArray) (hl : es.length ≤ 1000000) (hm : hs.length ≤ 2 * es.length + 64)
    (hnd : (es.map (·.1)).Nodup) (i : Nat) (hi : i < es.length) (he : es[i].1 = s) :
    Calls Try.prog 22 #[.pointer (some ⟨S, 0, none⟩), .string s, .int .u64 (hOf s : Int)] w fun e w' => e = .returned (.int .i64 i) ∧ Below w.heap.size w w' := by
  refine (find_any w B S a cap gh es hs st rm bt hS hI s (by omega) (by omega)).mono ?_
  rintro e w' ⟨r, rfl, hr, hb⟩
  rcases hr with ⟨_, hn⟩ | ⟨j, hj, rfl, hj2⟩
  · exact absurd (by rw [List.getD_eq_getElem?_getD, List.getElem?_eq_getElem hi]; exact he) (hn i hi)
  · have : j = i := by
      rw [List.getD_eq_getElem?_getD, List.getElem?_eq_getElem hj] at hj2
      have e1 : (es.map (·.1))[j]'(by simpa using hj) = (es.map (·.1))[i]'(by simpa using hi) := by simpa using hj2.trans he.symm
      exact (List.getElem_inj hnd).1 e1
    subst this
    exact ⟨rfl, hb⟩
end

set_option maxHeartbeats 400000 in
theorem put_old (w : World) (B S : Nat) (a : Option Addr) (cap gh : Nat) (es : List Ent) (hs : List Nat) (st rm : Int) (bt : Nat)
    (hS : StoreIs w B S a cap gh es hs st rm bt) (hI : Inv es.length es hs) (s : ByteArray) (hsz : s.size ≤ maxLen) (hl : es.length ≤ 1000000) (hm : hs.length ≤ 2 * es.length + 64)
    (hnd : (es.map (·.1)).Nodup) (i : Nat) (hi : i < es.length) (he : es[i].1 = s) :
    Calls Try.prog 11 #[.pointer (some ⟨S, 0, none⟩), .string s] w (PutOld w i) := by
  have HF := Lib.hid (find_some hS hI s hl hm hnd i hi he)
  clear he hnd
  go_enter Try.func11, Try.ntmps11
  go_wp2_with (first | (go_at_call 23; refine (hash_any _ _ hsz).mono ?_; rintro e w' ⟨rfl, rfl⟩) | (go_at_call 22; refine HF.out.mono ?_; rintro e w1 ⟨rfl, hb⟩))
  go_ret3
  exact ⟨rfl, hb⟩

set_option maxHeartbeats 400000 in
theorem put_full (w : World) (B S : Nat) (a : Option Addr) (cap gh : Nat) (es : List Ent) (hs : List Nat) (st rm : Int) (bt : Nat)
    (hS : StoreIs w B S a cap gh es hs st rm bt) (hI : Inv es.length es hs) (s : ByteArray) (hsz : s.size ≤ maxLen) (hl : es.length ≤ 1000000) (hm : hs.length ≤ 2 * es.length + 64)
    (_hr0 : 0 ≤ rm ∧ rm ≤ 9223372036854775807) (hbt : (bt : Int) ≤ rm)
    (hno : ∀ i, i < es.length → (es.getD i (ByteArray.empty, 0)).1 ≠ s) (hfull : st ≤ es.length ∨ rm - bt < s.size) :
    Calls Try.prog 11 #[.pointer (some ⟨S, 0, none⟩), .string s] w (PutFull w) := by
  have c0 := hS.box.cell 0
  have c2 := hS.box.cell 2
  have c3 := hS.box.cell 3
  have c4 := hS.box.cell 4
  have hSl := hS.box.lt
  simp at c0 c2 c3 c4
  have hz := hsz
  unfold maxLen at hz
  have HF := Lib.hid (find_none hS hI s hl hm hno)
  clear hno
  by_cases hd : st ≤ es.length
  · go_enter Try.func11, Try.ntmps11
    go_wp2_with (first | (go_at_call 23; refine (hash_any _ _ hsz).mono ?_; rintro e w' ⟨rfl, rfl⟩) | (go_at_call 22; refine HF.out.mono ?_; rintro e w1 ⟨rfl, hb⟩))
    have d0 := (hb.cell (p := ⟨S, 0, none⟩) hSl).trans c0
    have d2 := (hb.cell (p := ⟨S, 2, none⟩) hSl).trans c2
    have d3 := (hb.cell (p := ⟨S, 3, none⟩) hSl).trans c3
    have d4 := (hb.cell (p := ⟨S, 4, none⟩) hSl).trans c4
    clear c0 c2 c3 c4
    go_quiet (fail)
    go_wp2
    go_ret3
    exact ⟨rfl, below_drewN hb _⟩
  · have hd' : decide (st ≤ es.length) = false := by simpa using hd
    have hfull' : rm - bt < s.size := by omega
    clear hfull
    go_enter Try.func11, Try.ntmps11
    go_wp2_with (first | (go_at_call 23; refine (hash_any _ _ hsz).mono ?_; rintro e w' ⟨rfl, rfl⟩) | (go_at_call 22; refine HF.out.mono ?_; rintro e w1 ⟨rfl, hb⟩))
    have d0 := (hb.cell (p := ⟨S, 0, none⟩) hSl).trans c0
    have d2 := (hb.cell (p := ⟨S, 2, none⟩) hSl).trans c2
    have d3 := (hb.cell (p := ⟨S, 3, none⟩) hSl).trans c3
    have d4 := (hb.cell (p := ⟨S, 4, none⟩) hSl).trans c4
    clear c0 c2 c3 c4
    go_quiet (fail)
    go_wp2
    go_ret3
    exact ⟨rfl, below_drewN hb _⟩
end Go.Proofs.Ytgacglmbhfppgaa
