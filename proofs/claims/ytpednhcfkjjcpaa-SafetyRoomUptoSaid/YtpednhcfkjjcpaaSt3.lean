/- The store of chapter 19 as its user sees it. (turned out of wip/store) -/
import Derived.Test.YtpednhcfkjjcpaaSt2
namespace Go.Proofs.Ytpednhcfkjjcpaa.St
open Go.RowKit
set_option linter.unusedVariables false
set_option linter.unusedSimpArgs false
section
section
variable {w w' : World} {B S : Nat} {L : List ByteArray} {st rm : Int} {F G : Nat → Prop}

theorem StoreAt.fr (h : StoreAt w B S L st rm F) (hf : Fr G w w') (hd : ∀ k, F k → ¬ G k) : StoreAt w' B S L st rm F := by
  obtain ⟨a, cap, gh, es, hs, hS, hI, hL, hm, hF⟩ := h.ex
  exact ⟨h.st0, h.rm0, h.fits, h.nodup, a, cap, gh, es, hs, hS.fr hf (hd _ ((hF _).2 (.inl rfl))) (hd _ ((hF _).2 (.inr (.inl rfl)))) (fun g hg => hd _ ((hF _).2 (.inr (.inr ⟨g, hg, rfl⟩)))), hI, hL, hm, hF⟩

theorem StoreAt.below (h : StoreAt w B S L st rm F) (hb : Below w.heap.size w w') : StoreAt w' B S L st rm F := h.fr (G := fun _ => False) (Fr.of_below hb _) fun _ _ => id

theorem StoreAt.drewN (h : StoreAt w B S L st rm F) (n : Nat) : StoreAt (w.drewN n) B S L st rm F := h.below (below_drewN (Below.refl _ _) n)
theorem StoreAt.alloc (h : StoreAt w B S L st rm F) (o : Obj) : StoreAt (w.alloc o) B S L st rm F := h.below ((Below.refl _ _).alloc (Nat.le_refl _) _)

theorem StoreAt.lt (h : StoreAt w B S L st rm F) : ∀ k, F k → B ≤ k ∧ k < w.heap.size := by
  obtain ⟨a, cap, gh, es, hs, hS, hI, hL, hm, hF⟩ := h.ex
  intro k hk
  rcases (hF k).1 hk with rfl | rfl | ⟨g, rfl, rfl⟩
  · exact ⟨hS.bS, hS.box.lt⟩
  · exact ⟨hS.bH, hS.heads.lt⟩
  · exact hS.ents.lt _ rfl

theorem not_mem_ents {es : List Ent} {s : ByteArray} (h : s ∉ es.map (·.1)) : ∀ i, i < es.length → (es.getD i (ByteArray.empty, 0)).1 ≠ s := by
  intro i hi e
  apply h
  rw [List.getD_eq_getElem?_getD, List.getElem?_eq_getElem hi] at e
  rw [← e]
  exact List.mem_map_of_mem (List.getElem_mem hi)

theorem put_old_at (h : StoreAt w B S L st rm F) (hl : L.length ≤ 1000000) (s : ByteArray) (hsz : s.size ≤ maxLen) (i : Nat) (hi : i < L.length) (he : L[i] = s) :
    Calls Try.prog 33 #[.pointer (some ⟨S, 0, none⟩), .string s] w (PutOld w i) := by
  obtain ⟨a, cap, gh, es, hs, hS, hI, rfl, hm, hF⟩ := h.ex
  exact put_old w B S a cap gh es hs st rm _ hS hI s hsz (by simpa using hl) hm h.nodup i (by simpa using hi) (by simpa using he)

theorem put_full_at (h : StoreAt w B S L st rm F) (hl : L.length ≤ 1000000) (s : ByteArray) (hsz : s.size ≤ maxLen) (hno : s ∉ L) (hfull : st ≤ L.length ∨ rm - total L < s.size) :
    Calls Try.prog 33 #[.pointer (some ⟨S, 0, none⟩), .string s] w (PutFull w) := by
  obtain ⟨a, cap, gh, es, hs, hS, hI, rfl, hm, hF⟩ := h.ex
  exact put_full w B S a cap gh es hs st rm _ hS hI s hsz (by simpa using hl) hm h.rm0 h.fits (not_mem_ents hno) (by simpa using hfull)

theorem total_append (L : List ByteArray) (s : ByteArray) : total (L ++ [s]) = total L + s.size := by simp [total]

def PutMore (w : World) (B S : Nat) (L : List ByteArray) (st rm : Int) (F : Nat → Prop) (s : ByteArray) (e : Ending) (w' : World) : Prop :=
  e = .returned (.tuple #[.int .i64 (L.length : Int), .bool true, .int .i64 0]) ∧ ∃ F' : Nat → Prop, StoreAt w' B S (L ++ [s]) st rm F' ∧ Fr F w w' ∧ ∀ k, F' k → F k ∨ w.heap.size ≤ k

theorem put_new_at (h : StoreAt w B S L st rm F) (hl : L.length ≤ 1000000) (s : ByteArray) (hsz : s.size ≤ maxLen) (hno : s ∉ L) (hst : L.length < st) (hrm : (s.size : Int) ≤ rm - total L) :
    Calls Try.prog 33 #[.pointer (some ⟨S, 0, none⟩), .string s] w (PutMore w B S L st rm F s) := by
  obtain ⟨a, cap, gh, es, hs, hS, hI, rfl, hm, hF⟩ := h.ex
  refine (put_new w B S a cap gh es hs st rm _ hS hI s hsz (by simpa using hl) hm h.rm0 h.fits (not_mem_ents hno) (by simpa using hst) hrm).mono ?_
  rintro e w' ⟨rfl, a', cap', gh', es', hs', hS', hI', hM, hm', hFr, hgh, ha⟩
  refine ⟨by rw [List.length_map], fun k => k = S ∨ k = gh' ∨ ∃ g, a' = some ⟨g, 0, none⟩ ∧ k = g, ⟨h.st0, h.rm0, ?_, ?_, a', cap', gh', es', hs', ?_, hI', hM, hm', fun k => Iff.rfl⟩, hFr.mono (fun k _ hk => (hF k).2 hk), ?_⟩
  · rw [total_append]; omega
  · rw [List.nodup_append]
    refine ⟨h.nodup, by simp, fun x hx y hy => ?_⟩
    simp at hy
    subst hy
    rintro rfl
    exact hno hx
  · rw [total_append]; exact hS'
  · rintro k (rfl | rfl | ⟨g, hg, rfl⟩)
    · exact .inl ((hF _).2 (.inl rfl))
    · rcases hgh with rfl | hgh
      · exact .inl ((hF _).2 (.inr (.inl rfl)))
      · exact .inr hgh
    · rcases ha _ hg with e | e
      · exact .inl ((hF _).2 (.inr (.inr ⟨k, e.trans hg, rfl⟩)))
      · exact .inr e

set_option maxRecDepth 100000 in
set_option maxHeartbeats 400000 in
theorem find_old_at (h : StoreAt w B S L st rm F) (hl : L.length ≤ 1000000) (s : ByteArray) (hsz : s.size ≤ maxLen) (i : Nat) (hi : i < L.length) (he : L[i] = s) :
    Calls Try.prog 48 #[.pointer (some ⟨S, 0, none⟩), .string s] w fun e w' => e = .returned (.tuple #[.int .i64 i, .bool true]) ∧ Below w.heap.size w w' := by
  obtain ⟨a, cap, gh, es, hs, hS, hI, rfl, hm, hF⟩ := h.ex
  have hi' : i < es.length := by simpa using hi
  have hl' : es.length ≤ 1000000 := by simpa using hl
  have HC := Lib.hid (find_some hS hI s hl' hm h.nodup i hi' (by simpa using he))
  clear he
  go_enter Try.func48, Try.ntmps48
  go_wp2_with (first | (go_at_call 43; refine (hash_any _ _ hsz).mono ?_; rintro e w' ⟨rfl, rfl⟩) | (go_at_call 44; refine HC.out.mono ?_; rintro e w1 ⟨rfl, hb⟩))
  go_ret2
  exact ⟨by simp, hb⟩

set_option maxRecDepth 100000 in
set_option maxHeartbeats 400000 in
theorem find_none_at (h : StoreAt w B S L st rm F) (hl : L.length ≤ 1000000) (s : ByteArray) (hsz : s.size ≤ maxLen) (hno : s ∉ L) :
    Calls Try.prog 48 #[.pointer (some ⟨S, 0, none⟩), .string s] w fun e w' => e = .returned (.tuple #[.int .i64 0, .bool false]) ∧ Below w.heap.size w w' := by
  obtain ⟨a, cap, gh, es, hs, hS, hI, rfl, hm, hF⟩ := h.ex
  have hl' : es.length ≤ 1000000 := by simpa using hl
  have HC := Lib.hid (find_none hS hI s hl' hm (not_mem_ents hno))
  clear hno
  go_enter Try.func48, Try.ntmps48
  go_wp2_with (first | (go_at_call 43; refine (hash_any _ _ hsz).mono ?_; rintro e w' ⟨rfl, rfl⟩) | (go_at_call 44; refine HC.out.mono ?_; rintro e w1 ⟨rfl, hb⟩))
  go_ret2
  exact ⟨rfl, hb⟩

set_option maxRecDepth 100000 in
set_option maxHeartbeats 400000 in
theorem len_at (h : StoreAt w B S L st rm F) :
    Calls Try.prog 34 #[.pointer (some ⟨S, 0, none⟩)] w fun e w' => e = .returned (.int .i64 (L.length : Int)) ∧ w = w' := by
  obtain ⟨a, cap, gh, es, hs, hS, hI, rfl, hm, hF⟩ := h.ex
  have c0 := hS.box.cell 0
  simp at c0
  rw [List.length_map]
  go_enter Try.func34, Try.ntmps34
  go_wp2
  go_ret
  exact ⟨rfl, rfl⟩


end

def heads0 : Array Value := ((List.replicate 64 0).map fun (k : Nat) => Value.int .i64 (k : Int)).toArray
theorem make_heads (w : World) : (Instr.makeSlice 47 (.int .i64 64) (.int .i64 64)).run Try.prog w = .ok (.slice (some ⟨w.heap.size, 0, none⟩) 64 64) (w.alloc (.cells heads0 3)) := by kernel_rfl

def NewPost (w : World) (B : Nat) (st rm : Int) (e : Ending) (w' : World) : Prop :=
  ∃ S F, e = .returned (.pointer (some ⟨S, 0, none⟩)) ∧ StoreAt w' B S [] st rm F ∧ Below w.heap.size w w' ∧ (∀ k, F k → w.heap.size ≤ k)

theorem new_close (w : World) (B : Nat) (hB : B ≤ w.heap.size) (st rm : Int) (h1 : 0 ≤ st ∧ st ≤ 9223372036854775807) (h2 : 0 ≤ rm ∧ rm ≤ 9223372036854775807) :
    NewPost w B st rm (.returned (.pointer (some ⟨w.heap.size + 1, 0, none⟩)))
      ((w.alloc (.cells heads0 3)).alloc (.cells #[.slice none 0 0, .slice (some ⟨w.heap.size, 0, none⟩) 64 64, .int .i64 st, .int .i64 rm, .int .i64 0] 112)) := by
  have hH : Holds (w.alloc (.cells heads0 3)) w.heap.size 3 _ := Holds.new w 3 heads0
  have hb := Holds.new (w.alloc (.cells heads0 3)) 112 #[.slice none 0 0, .slice (some ⟨w.heap.size, 0, none⟩) 64 64, .int .i64 st, .int .i64 rm, .int .i64 0]
  rw [World.size_alloc] at hb
  refine ⟨w.heap.size + 1, _, rfl, ⟨h1, h2, by simp [total]; omega, List.nodup_nil, none, 0, w.heap.size, [], List.replicate 64 0, ⟨?_, by omega, World.ownsRow_nil _ _ _ _, hB, ?_⟩, Inv.zero _ _ (by omega), rfl, by simp, fun k => Iff.rfl⟩, ((Below.refl _ w).alloc (Nat.le_refl _) _).alloc (by simp) _, ?_⟩
  · simpa [total] using hb
  · exact hH.alloc _
  · rintro k (rfl | rfl | ⟨g, hg, _⟩)
    · omega
    · exact Nat.le_refl _
    · cases hg

set_option maxRecDepth 100000 in
set_option maxHeartbeats 400000 in
theorem new_at (w : World) (B : Nat) (hB : B ≤ w.heap.size) (st rm : Int) (hst : st ≤ 9223372036854775807) (hrm : rm ≤ 9223372036854775807) :
    Calls Try.prog 15 #[.int .i64 st, .int .i64 rm] w (NewPost w B (max st 0) (max rm 0)) := by
  have hmk := make_heads
  by_cases h1 : st < 0
  · by_cases h2 : rm < 0
    · have e1 := Lib.hid (new_close w B hB (max st 0) (max rm 0) (by omega) (by omega))
      rw [show max st 0 = 0 from by omega, show max rm 0 = 0 from by omega] at e1
      rw [show max st 0 = 0 from by omega, show max rm 0 = 0 from by omega]
      go_enter Try.func15, Try.ntmps15
      go_wp2
      go_ret
      exact e1
    · have e1 := Lib.hid (new_close w B hB (max st 0) (max rm 0) (by omega) (by omega))
      rw [show max st 0 = 0 from by omega, show max rm 0 = rm from by omega] at e1
      rw [show max st 0 = 0 from by omega, show max rm 0 = rm from by omega]
      go_enter Try.func15, Try.ntmps15
      go_wp2
      go_ret
      exact e1
  · by_cases h2 : rm < 0
    · have e1 := Lib.hid (new_close w B hB (max st 0) (max rm 0) (by omega) (by omega))
      rw [show max st 0 = st from by omega, show max rm 0 = 0 from by omega] at e1
      rw [show max st 0 = st from by omega, show max rm 0 = 0 from by omega]
      go_enter Try.func15, Try.ntmps15
      go_wp2
      go_ret
      exact e1
    · have e1 := Lib.hid (new_close w B hB (max st 0) (max rm 0) (by omega) (by omega))
      rw [show max st 0 = st from by omega, show max rm 0 = rm from by omega] at e1
      rw [show max st 0 = st from by omega, show max rm 0 = rm from by omega]
      go_enter Try.func15, Try.ntmps15
      go_wp2
      go_ret
      exact e1
end
end Go.Proofs.Ytpednhcfkjjcpaa.St
