/- The store of chapter 19: Put. (turned out of wip/store) -/
import Derived.Test.YtpednhcfkjjcpaaSt1
import Derived.Maps.AppendAt
import Derived.RangeFuncBox
namespace Go.Proofs.Ytpednhcfkjjcpaa.St
open Go.RowKit
set_option linter.unusedVariables false
set_option linter.unusedSimpArgs false
section
def total (L : List ByteArray) : Nat := (L.map ByteArray.size).sum

/-- The store, as its user sees it: the states L, room for st states and rm bytes; F: its blocks. -/
structure StoreAt (w : World) (B S : Nat) (L : List ByteArray) (st rm : Int) (F : Nat → Prop) : Prop where
  st0 : 0 ≤ st ∧ st ≤ 9223372036854775807
  rm0 : 0 ≤ rm ∧ rm ≤ 9223372036854775807
  fits : (total L : Int) ≤ rm
  nodup : L.Nodup
  ex : ∃ a cap gh es hs, StoreIs w B S a cap gh es hs st rm (total L) ∧ Inv es.length es hs ∧ es.map (·.1) = L ∧ hs.length ≤ 2 * es.length + 64 ∧
    ∀ k, F k ↔ (k = S ∨ k = gh ∨ ∃ g, a = some ⟨g, 0, none⟩ ∧ k = g)

def PutOld (w : World) (i : Nat) (e : Ending) (w' : World) : Prop := e = .returned (.tuple #[.int .i64 i, .bool false, .int .i64 0]) ∧ Below w.heap.size w w'
def PutFull (w : World) (e : Ending) (w' : World) : Prop := e = .returned (.tuple #[.int .i64 0, .bool false, .int .i64 190]) ∧ Below w.heap.size w w'

section
variable {w : World} {B S : Nat} {a : Option Addr} {cap gh : Nat} {es : List Ent} {hs : List Nat} {st rm : Int} {bt : Nat}

theorem find_none (hS : StoreIs w B S a cap gh es hs st rm bt) (hI : Inv es.length es hs) (s : ByteArray) (hl : es.length ≤ 1000000) (hm : hs.length ≤ 2 * es.length + 64)
    (hno : ∀ i, i < es.length → (es.getD i (ByteArray.empty, 0)).1 ≠ s) :
    Calls Try.prog 44 #[.pointer (some ⟨S, 0, none⟩), .string s, .int .u64 (hOf s : Int)] w fun e w' => e = .returned (.int .i64 (-1)) ∧ Below w.heap.size w w' := by
  refine (find_any w B S a cap gh es hs st rm bt hS hI s (by omega) (by omega)).mono ?_
  rintro e w' ⟨r, rfl, hr, hb⟩
  rcases hr with ⟨rfl, _⟩ | ⟨i, hi, _, he⟩
  · exact ⟨rfl, hb⟩
  · exact absurd he (hno i hi)

theorem find_some (hS : StoreIs w B S a cap gh es hs st rm bt) (hI : Inv es.length es hs) (s : ByteArray) (hl : es.length ≤ 1000000) (hm : hs.length ≤ 2 * es.length + 64)
    (hnd : (es.map (·.1)).Nodup) (i : Nat) (hi : i < es.length) (he : es[i].1 = s) :
    Calls Try.prog 44 #[.pointer (some ⟨S, 0, none⟩), .string s, .int .u64 (hOf s : Int)] w fun e w' => e = .returned (.int .i64 i) ∧ Below w.heap.size w w' := by
  refine (find_any w B S a cap gh es hs st rm bt hS hI s (by omega) (by omega)).mono ?_
  rintro e w' ⟨r, rfl, hr, hb⟩
  rcases hr with ⟨_, hn⟩ | ⟨j, hj, rfl, hj2⟩
  · exact absurd (by rw [List.getD_eq_getElem?_getD, List.getElem?_eq_getElem hi]; exact he) (hn i hi)
  · have : j = i := by
      rw [List.getD_eq_getElem?_getD, List.getElem?_eq_getElem hj] at hj2
      have e1 : (es.map (·.1))[j]'(by simpa using hj) = (es.map (·.1))[i]'(by simpa using hi) := by simpa using hj2.trans he.symm
      exact (List.getElem_inj hnd).1 e1
    subst this
    exact ⟨rfl, hb⟩
end

set_option maxRecDepth 100000 in
set_option maxHeartbeats 400000 in
theorem put_old (w : World) (B S : Nat) (a : Option Addr) (cap gh : Nat) (es : List Ent) (hs : List Nat) (st rm : Int) (bt : Nat)
    (hS : StoreIs w B S a cap gh es hs st rm bt) (hI : Inv es.length es hs) (s : ByteArray) (hsz : s.size ≤ maxLen) (hl : es.length ≤ 1000000) (hm : hs.length ≤ 2 * es.length + 64)
    (hnd : (es.map (·.1)).Nodup) (i : Nat) (hi : i < es.length) (he : es[i].1 = s) :
    Calls Try.prog 33 #[.pointer (some ⟨S, 0, none⟩), .string s] w (PutOld w i) := by
  have HF := Lib.hid (find_some hS hI s hl hm hnd i hi he)
  clear he hnd
  go_enter Try.func33, Try.ntmps33
  go_wp2_with (first | (go_at_call 43; refine (hash_any _ _ hsz).mono ?_; rintro e w' ⟨rfl, rfl⟩) | (go_at_call 44; refine HF.out.mono ?_; rintro e w1 ⟨rfl, hb⟩))
  go_ret3
  exact ⟨rfl, hb⟩

set_option maxRecDepth 100000 in
set_option maxHeartbeats 400000 in
theorem put_full (w : World) (B S : Nat) (a : Option Addr) (cap gh : Nat) (es : List Ent) (hs : List Nat) (st rm : Int) (bt : Nat)
    (hS : StoreIs w B S a cap gh es hs st rm bt) (hI : Inv es.length es hs) (s : ByteArray) (hsz : s.size ≤ maxLen) (hl : es.length ≤ 1000000) (hm : hs.length ≤ 2 * es.length + 64)
    (_hr0 : 0 ≤ rm ∧ rm ≤ 9223372036854775807) (hbt : (bt : Int) ≤ rm)
    (hno : ∀ i, i < es.length → (es.getD i (ByteArray.empty, 0)).1 ≠ s) (hfull : st ≤ es.length ∨ rm - bt < s.size) :
    Calls Try.prog 33 #[.pointer (some ⟨S, 0, none⟩), .string s] w (PutFull w) := by
  have c0 := hS.box.cell 0
  have c2 := hS.box.cell 2
  have c3 := hS.box.cell 3
  have c4 := hS.box.cell 4
  have hSl := hS.box.lt
  simp at c0 c2 c3 c4
  have hz := hsz
  unfold maxLen at hz
  have HF := Lib.hid (find_none hS hI s hl hm hno)
  clear hno
  by_cases hd : st ≤ es.length
  · go_enter Try.func33, Try.ntmps33
    go_wp2_with (first | (go_at_call 43; refine (hash_any _ _ hsz).mono ?_; rintro e w' ⟨rfl, rfl⟩) | (go_at_call 44; refine HF.out.mono ?_; rintro e w1 ⟨rfl, hb⟩))
    have d0 := (hb.cell (p := ⟨S, 0, none⟩) hSl).trans c0
    have d2 := (hb.cell (p := ⟨S, 2, none⟩) hSl).trans c2
    have d3 := (hb.cell (p := ⟨S, 3, none⟩) hSl).trans c3
    have d4 := (hb.cell (p := ⟨S, 4, none⟩) hSl).trans c4
    clear c0 c2 c3 c4
    go_quiet (fail)
    go_wp2
    go_ret3
    exact ⟨rfl, below_drewN hb _⟩
  · have hd' : decide (st ≤ es.length) = false := by simpa using hd
    have hfull' : rm - bt < s.size := by omega
    clear hfull
    go_enter Try.func33, Try.ntmps33
    go_wp2_with (first | (go_at_call 43; refine (hash_any _ _ hsz).mono ?_; rintro e w' ⟨rfl, rfl⟩) | (go_at_call 44; refine HF.out.mono ?_; rintro e w1 ⟨rfl, hb⟩))
    have d0 := (hb.cell (p := ⟨S, 0, none⟩) hSl).trans c0
    have d2 := (hb.cell (p := ⟨S, 2, none⟩) hSl).trans c2
    have d3 := (hb.cell (p := ⟨S, 3, none⟩) hSl).trans c3
    have d4 := (hb.cell (p := ⟨S, 4, none⟩) hSl).trans c4
    clear c0 c2 c3 c4
    go_quiet (fail)
    go_wp2
    go_ret3
    exact ⟨rfl, below_drewN hb _⟩
end
section
theorem StoreIs.fr {w w' : World} {B S : Nat} {a : Option Addr} {cap gh : Nat} {es : List Ent} {hs : List Nat} {st rm : Int} {bt : Nat} {F : Nat → Prop} (h : StoreIs w B S a cap gh es hs st rm bt) (hf : Fr F w w')
    (h1 : ¬ F S) (h2 : ¬ F gh) (h3 : ∀ g, a = some ⟨g, 0, none⟩ → ¬ F g) : StoreIs w' B S a cap gh es hs st rm bt where
  box := hf.holds h.box h1
  bS := h.bS
  ents := hf.owns h.ents fun g hg => by
    rcases h.ents.2 with ⟨h0, _⟩ | ⟨g', cap', cur, hv, _⟩
    · rw [h0] at hg; simp [Value.ownBlock] at hg
    · injection hv with e1 _ _
      subst e1
      have : g' = g := by simpa [Value.ownBlock] using hg
      subst this
      exact h3 _ rfl
  bH := h.bH
  heads := hf.holds h.heads h2

theorem StoreIs.below {w w' : World} {B S : Nat} {a : Option Addr} {cap gh : Nat} {es : List Ent} {hs : List Nat} {st rm : Int} {bt : Nat} (h : StoreIs w B S a cap gh es hs st rm bt) (hb : Below w.heap.size w w') : StoreIs w' B S a cap gh es hs st rm bt :=
  h.fr (F := fun _ => False) (Fr.of_below hb _) id id fun _ _ => id

theorem StoreIs.drewN {w : World} {B S : Nat} {a : Option Addr} {cap gh : Nat} {es : List Ent} {hs : List Nat} {st rm : Int} {bt : Nat} (h : StoreIs w B S a cap gh es hs st rm bt) (n : Nat) : StoreIs (w.drewN n) B S a cap gh es hs st rm bt :=
  ⟨h.box, h.bS, h.ents, h.bH, h.heads⟩

theorem Inv.heads_le {n : Nat} {es : List Ent} {hs : List Nat} (h : Inv n es hs) : ∀ q ∈ hs, q ≤ n := by
  intro q hq
  obtain ⟨k, hk, rfl⟩ := List.getElem_of_mem hq
  have := h.heads k hk
  rw [List.getD_eq_getElem?_getD, List.getElem?_eq_getElem hk] at this
  simp only [Option.getD_some] at this
  rw [this]
  exact lastUp_le _ _

theorem infoEnt : (Try.prog.info? 129).map (fun i => (i.zero, i.size, i.bytes)) = some (some (.agg #[.string ByteArray.empty, .int .u64 0, .int .i64 0]), 3, 32) := by kernel_rfl

theorem infoNum : (Try.prog.info? 3).map (fun i => (i.zero, i.size, i.bytes)) = some (some (.int .i64 0), 1, 8) := by kernel_rfl

theorem cells_of_new (w : World) (cs : List Value) (t : TypeId) : ∀ (j : Nat) (u : Value), cs[j]? = some u → (w.alloc (.cells cs.toArray t)).cell? ((⟨w.heap.size, 0, none⟩ : Addr).add j) = some u := by
  intro j u hu
  rw [Addr.add_lit, Nat.zero_add, (Holds.new w t cs.toArray).cell j]
  exact hu

theorem StoreIs.alloc {w : World} {B S : Nat} {a : Option Addr} {cap gh : Nat} {es : List Ent} {hs : List Nat} {st rm : Int} {bt : Nat} (h : StoreIs w B S a cap gh es hs st rm bt) (o : Obj) : StoreIs (w.alloc o) B S a cap gh es hs st rm bt :=
  h.fr (F := fun _ => False) (Fr.alloc (Fr.refl _ _) _) id id fun _ _ => id

theorem own_of_block {w : World} {base : Nat} {e : TypeId} {size n cap : Nat} {a : Option Addr} {xs : List Value} (h : w.ownsRow base e size (.slice a n cap) n xs) {k : Nat} (hk : (Value.slice a n cap).ownBlock = some k) : ∃ g, a = some ⟨g, 0, none⟩ ∧ k = g := by
  rcases h.2 with ⟨h0, _⟩ | ⟨g', cap', cur, hv, _⟩
  · rw [h0] at hk; simp [Value.ownBlock] at hk
  · injection hv with e1 _ _
    subst e1
    exact ⟨g', rfl, by simpa [Value.ownBlock] using hk.symm⟩

/-- The entry is appended and laid into the struct, the bytes are counted. -/
theorem store_added {w w2 : World} {B S : Nat} {a : Option Addr} {cap gh g' cap' : Nat} {es : List Ent} {hs : List Nat} {st rm : Int} {bt : Nat} (hS : StoreIs w B S a cap gh es hs st rm bt) (s : ByteArray)
    (hown : w2.ownsRow B 129 3 (.slice (some ⟨g', 0, none⟩) (es.length + 1) cap') (es.length + 1) (flat es ++ entCells (s, 0))) (hg : w.grownBy w2 (Value.slice a es.length cap).ownBlock) :
    StoreIs ((w2.setCell ⟨S, 0, none⟩ (.slice (some ⟨g', 0, none⟩) (es.length + 1) cap')).setCell ⟨S, 4, none⟩ (.int .i64 ((bt : Int) + (s.size : Int)))) B S (some ⟨g', 0, none⟩) cap' gh (es ++ [(s, 0)]) hs st rm (bt + s.size) := by
  have hF : Fr (fun k => (Value.slice a es.length cap).ownBlock = some k) w w2 := (Fr.refl _ w).grown hg fun k hk _ => hk
  have hb2 : Holds w2 S 112 _ := hF.holds hS.box (fun e => owns_ne_holds hS.ents hS.box (by decide) e)
  have hh2 : Holds w2 gh 3 _ := hF.holds hS.heads (fun e => owns_ne_holds hS.ents hS.heads (by decide) e)
  have hSh : S ≠ gh := hS.box.ne_of_type hS.heads (by decide)
  have hgS : g' ≠ S := fun e => owns_ne_holds hown hb2 (by decide) (by rw [← e]; rfl)
  have hlen : (es ++ [(s, 0)]).length = es.length + 1 := by simp
  refine ⟨?_, hS.bS, ?_, hS.bH, ?_⟩
  · have h := (hb2.put 0 (.slice (some ⟨g', 0, none⟩) (es.length + 1) cap')).put 4 (.int .i64 ((bt : Int) + (s.size : Int)))
    rw [hlen, Int.natCast_add]
    exact h
  · rw [hlen, flat_append, flat_cons, flat_nil, List.append_nil]
    have h1 := (Fr.refl (fun i => i = S) w2).setCell (p := ⟨S, 0, none⟩) (fun _ => rfl) (.slice (some ⟨g', 0, none⟩) (es.length + 1) cap')
    have h2 := h1.setCell (p := ⟨S, 4, none⟩) (fun _ => rfl) (.int .i64 ((bt : Int) + (s.size : Int)))
    refine h2.owns hown fun g hgg => ?_
    have : g' = g := by simpa [Value.ownBlock] using hgg
    subst this
    exact hgS
  · exact (hh2.far (p := ⟨S, 0, none⟩) (Ne.symm hSh) _).far (p := ⟨S, 4, none⟩) (Ne.symm hSh) _

/-- Where the grown row lies: where it lay, or in new memory. -/
theorem head_of_at {w : World} {B H : Nat} {e : TypeId} {size n cap : Nat} {a : Option Addr} {xs : List Value} {g' n' cap' : Nat} {N : Nat} (hat : (Value.slice (some ⟨g', 0, none⟩) n' cap').ownBlock = (Value.slice a n cap).ownBlock ∨ (Value.slice (some ⟨g', 0, none⟩) n' cap').ownBlock = some N)
    (h : w.ownsRow B e size (.slice a n cap) n xs) (hN : H ≤ N) : a = some ⟨g', 0, none⟩ ∨ H ≤ g' := by
  rcases hat with hat | hat
  · obtain ⟨g, hg, hk⟩ := own_of_block h (k := g') (by rw [← hat]; rfl)
    subst hk
    exact .inl hg
  · have : g' = N := by simpa [Value.ownBlock] using hat
    omega

theorem block_of_at {w : World} {B H : Nat} {e : TypeId} {size n cap : Nat} {a : Option Addr} {xs : List Value} {g' n' cap' S gh : Nat} {N : Nat} (hat : (Value.slice (some ⟨g', 0, none⟩) n' cap').ownBlock = (Value.slice a n cap).ownBlock ∨ (Value.slice (some ⟨g', 0, none⟩) n' cap').ownBlock = some N)
    (h : w.ownsRow B e size (.slice a n cap) n xs) (hN : H ≤ N) (hk : g' < H) : g' = S ∨ g' = gh ∨ ∃ g, a = some ⟨g, 0, none⟩ ∧ g' = g := by
  rcases head_of_at hat h hN with ha | ha
  · exact .inr (.inr ⟨g', ha, rfl⟩)
  · omega

theorem holds_of_full {w : World} {B g n : Nat} {e : TypeId} {xs : List Value} (h : w.ownsRow B e 1 (.slice (some ⟨g, 0, none⟩) n n) n xs) : Holds w g e xs := by
  rcases h.2 with ⟨h0, _⟩ | ⟨g', cap', cur, hv, _, hg, _, _, hcs, ht⟩
  · simp at h0
  · simp only [Value.slice.injEq, Option.some.injEq, Addr.mk.injEq, and_true, true_and] at hv
    obtain ⟨rfl, rfl⟩ := hv
    rw [List.take_of_length_le (by simp [hcs])] at ht
    subst ht
    exact hg

theorem store_rehead {w : World} {B S : Nat} {a : Option Addr} {cap gh N m : Nat} {es : List Ent} {hs : List Nat} {st rm : Int} {bt : Nat} (h : StoreIs w B S a cap gh es hs st rm bt)
    (hh : Holds w N 3 ((List.replicate m 0).map fun (k : Nat) => Value.int .i64 (k : Int))) (hB : B ≤ N) :
    StoreIs (w.setCell ⟨S, 1, none⟩ (.slice (some ⟨N, 0, none⟩) m m)) B S a cap N es (List.replicate m 0) st rm bt := by
  have hSN : S ≠ N := h.box.ne_of_type hh (by decide)
  refine ⟨?_, h.bS, ?_, hB, hh.far (p := ⟨S, 1, none⟩) (Ne.symm hSN) _⟩
  · have h1 := h.box.put 1 (.slice (some ⟨N, 0, none⟩) m m)
    rw [List.length_replicate]
    exact h1
  · refine ((Fr.refl (fun i => i = S) w).setCell (p := ⟨S, 1, none⟩) (fun _ => rfl) _).owns h.ents fun g hg e => ?_
    subst e
    exact owns_ne_holds h.ents h.box (by decide) hg

theorem set_same {α : Type} {l : List α} {k : Nat} {x : α} (hk : k < l.length) (hx : x = l[k]) : l.set k x = l := by
  subst hx; simp

def PutNew (w : World) (B S : Nat) (a : Option Addr) (gh : Nat) (es : List Ent) (s : ByteArray) (st rm : Int) (bt : Nat) (e : Ending) (w' : World) : Prop :=
  e = .returned (.tuple #[.int .i64 (es.length : Int), .bool true, .int .i64 0]) ∧ ∃ a' cap' gh' es' hs', StoreIs w' B S a' cap' gh' es' hs' st rm (bt + s.size) ∧ Inv es'.length es' hs' ∧ es'.map (·.1) = es.map (·.1) ++ [s] ∧ hs'.length ≤ 2 * es'.length + 64 ∧
    Fr (fun k => k = S ∨ k = gh ∨ ∃ g, a = some ⟨g, 0, none⟩ ∧ k = g) w w' ∧ (gh' = gh ∨ w.heap.size ≤ gh') ∧ ∀ g, a' = some ⟨g, 0, none⟩ → a = a' ∨ w.heap.size ≤ g

set_option maxRecDepth 100000 in
set_option maxHeartbeats 400000 in
theorem put_new (w : World) (B S : Nat) (a : Option Addr) (cap gh : Nat) (es : List Ent) (hs : List Nat) (st rm : Int) (bt : Nat)
    (hS : StoreIs w B S a cap gh es hs st rm bt) (hI : Inv es.length es hs) (s : ByteArray) (hsz : s.size ≤ maxLen) (hl : es.length ≤ 1000000) (hm : hs.length ≤ 2 * es.length + 64)
    (_hr0 : 0 ≤ rm ∧ rm ≤ 9223372036854775807) (hbt : (bt : Int) ≤ rm)
    (hno : ∀ i, i < es.length → (es.getD i (ByteArray.empty, 0)).1 ≠ s) (hst : es.length < st) (hrm : (s.size : Int) ≤ rm - bt) :
    Calls Try.prog 33 #[.pointer (some ⟨S, 0, none⟩), .string s] w (PutNew w B S a gh es s st rm bt) := by
  obtain ⟨i0, hi0, hz0, hz1, hz2⟩ := info_parts infoEnt
  obtain ⟨j0, hj0, hy0, hy1, hy2⟩ := info_parts infoNum
  have hz := hsz
  unfold maxLen at hz
  have HF := Lib.hid (find_none hS hI s hl hm hno)
  clear hno
  have hd : decide (st ≤ es.length) = false := by simpa using hst
  have hd2 : decide (rm - bt < s.size) = false := by simpa using hrm
  go_enter Try.func33, Try.ntmps33
  go_wp2_with (first | (go_at_call 43; refine (hash_any _ _ hsz).mono ?_; rintro e w' ⟨rfl, rfl⟩) | (go_at_call 44; refine HF.out.mono ?_; rintro e w1 ⟨rfl, hb⟩))
  have hS1 := hS.below hb
  have d0 := hS1.box.cell 0
  have d1 := hS1.box.cell 1
  have d2 := hS1.box.cell 2
  have d3 := hS1.box.cell 3
  have d4 := hS1.box.cell 4
  simp at d0 d1 d2 d3 d4
  go_quiet (fail)
  have hB2 : Below w.heap.size w (w1.drewN nq) := below_drewN hb _
  have hS2 := hS1.drewN nq
  have hBw : B ≤ w.heap.size := Nat.le_of_lt (Nat.lt_of_le_of_lt hS.bS hS.box.lt)
  go_wp2_with (at_builtin; refine wpList_append_own_at _ rfl (.tmp 49) (.tmp 53) _ rfl B 129 i0 _ 3 32 Try.underlying110 hi0 hz0 hz1 hz2 rfl (by omega) (.slice a es.length cap) es.length (flat es) rfl (hS2.ents.alloc _) ⟨w1.heap.size, 0, none⟩ 1 1 (entCells (s, 0)) rfl rfl ?c1 ?c2 ?c3 ?c4 ?c5 ?_)
  case c1 => exact cells_of_new (w1.drewN nq) (entCells (s, 0)) 129
  case c2 => simp [entCells, Value.oneCell']
  case c3 => unfold maxLen; omega
  case c4 => omega
  case c5 => have := hB2.size; simp at this ⊢; omega
  intro v' w2 hown hgrow _ hat
  obtain ⟨g', cap', rfl⟩ := ownsRow_succ hown
  have hF : Fr (fun k => (Value.slice a es.length cap).ownBlock = some k) ((w1.drewN nq).alloc (.cells (entCells (s, 0)).toArray 129)) w2 := (Fr.refl _ _).grown hgrow fun k hk _ => hk
  have hb2 : Holds w2 S 112 _ := hF.holds (hS2.box.alloc _) (fun e => owns_ne_holds hS2.ents hS2.box (by decide) e)
  have f0 := hb2.cell 0
  have f1 := hb2.cell 1
  have f4 := hb2.cell 4
  have z0 := hb2.free 0
  have z4 := hb2.free 4
  simp at f0 f1 f4
  have hbz : bt + s.size ≤ 9223372036854775807 := by omega
  go_wp2_with fail
  have hS4 := store_added (hS2.alloc (.cells (entCells (s, 0)).toArray 129)) s hown hgrow
  have HI : Hid (Inv es.length (es ++ [(s, 0)]) hs) := hI.append (Nat.le_refl _) (s, 0)
  have hF4 : Fr (fun k => k = S ∨ k = gh ∨ ∃ g, a = some ⟨g, 0, none⟩ ∧ k = g) w ((w2.setCell ⟨S, 0, none⟩ (.slice (some ⟨g', 0, none⟩) (es.length + 1) cap')).setCell ⟨S, 4, none⟩ (.int .i64 ((bt : Int) + (s.size : Int)))) := by
    refine Fr.setCell (Fr.setCell (Fr.grown (Fr.alloc (Fr.of_below hB2 _) _) hgrow ?_) (fun _ => .inl rfl) _) (fun _ => .inl rfl) _
    intro k hk _
    exact .inr (.inr (own_of_block hS2.ents hk))
  rcases Nat.lt_or_ge hs.length (es.length + 1) with hsm | hsm
  case inr =>
    go_quiet (fail)
    have hS5 := hS4.drewN nq
    go_wp2_with fail
    refine (hang_any _ B S _ cap' gh (es ++ [(s, 0)]) hs st rm (bt + s.size) hS5 hI.pos es.length (by simp) (by simp; omega) (by omega) (fun q hq => Nat.le_trans (hI.heads_le q hq) (by simp))).mono ?_
    rintro e w5 ⟨rfl, hS6, hF6⟩
    have g0 := hS6.box.cell 0
    simp at g0
    go_wp2
    go_ret3
    have HI2 := HI.out.hang (by simp)
    refine ⟨?_, some ⟨g', 0, none⟩, cap', gh, _, _, hS6, ?_, ?_, ?_, ?_, .inl rfl, ?_⟩
    · rfl
    · simpa using HI2
    · simp
    · simp; omega
    · refine (hF4.drewN _).trans hF6 ?_
      rintro k hk (rfl | ⟨g, hg, rfl⟩)
      · exact .inr (.inl rfl)
      · injection hg with hg
        injection hg with hg
        subst hg
        exact block_of_at hat hS2.ents (Nat.le_succ_of_le hb.size) hk
    · intro g hg
      injection hg with hg
      injection hg with hg
      subst hg
      exact head_of_at hat hS2.ents (Nat.le_succ_of_le hb.size)
  case inl =>
    go_quiet (fail)
    have hS5 := hS4.drewN nq
    go_wp2_with (at_make; refine wpList_make_full _ rfl (.tmp 83) (.tmp 83) 47 rfl B 3 j0 (.int .i64 0) 1 Try.underlying47 hj0 hy0 hy1 .i64 .i64 _ _ (2 * hs.length) rfl rfl (by omega) (by omega) ?b1 ?b2 ?b3 ?_)
    case b1 => rw [hy2]; omega
    case b2 => unfold maxLen; omega
    case b3 => have := hF4.size; simp at this ⊢; omega
    intro w5 hown5 hgrow5
    have hS6 := hS5.fr (F := fun _ => False) ((Fr.refl _ _).grown hgrow5 (by simp)) id id fun _ _ => id
    have hF5 := (hF4.drewN nq).grown hgrow5 (by simp)
    have hH5 := holds_of_full hown5
    rw [show (madeCells #[Value.int IntKind.i64 0] (2 * hs.length)).toList = (List.replicate (2 * hs.length) 0).map (fun (k : Nat) => Value.int .i64 (k : Int)) from by rw [toList_madeCells_one]; simp] at hH5
    have hBN : B ≤ w2.heap.size := by have := hF4.size; simp at this; omega
    have hwN : w.heap.size ≤ w2.heap.size := by have := hF4.size; simp at this; omega
    have hS7 := store_rehead hS6 hH5 hBN
    have k0 := hS6.box.cell 0
    have k1 := hS6.box.cell 1
    have y1 := hS6.box.free 1
    simp at k0 k1
    go_wp2_with fail
    go_loopw [92] (fun i wr => ∃ (k : Nat) (es' : List Ent) (hs' : List Nat), i = .int .i64 k ∧ k ≤ es.length + 1 ∧ Hid (es'.length = es.length + 1) ∧ StoreIs wr B S (some ⟨g', 0, none⟩) cap' w2.heap.size es' hs' st rm (bt + s.size) ∧ Hid (Inv k es' hs') ∧
      Hid (es'.map (·.1) = es.map (·.1) ++ [s]) ∧ Hid (hs'.length = 2 * hs.length) ∧ Fr (fun k => k = S ∨ k = gh ∨ ∃ g, a = some ⟨g, 0, none⟩ ∧ k = g) w wr) (fun i _ => es.length + 1 - (intOf i).toNat)
    case atStart =>
      exact ⟨0, es ++ [(s, 0)], List.replicate (2 * hs.length) 0, rfl, Nat.zero_le _, List.length_append, hS7, Inv.zero _ _ (by have := hI.pos; omega), List.map_append, List.length_replicate, hF5.setCell (fun _ => .inl rfl) _⟩
    case round =>
      obtain ⟨k, es', hs', rfl, hk, HL, hSr, HIr, HM, HH, hFr⟩ := hrel
      by_cases hlt : k < es.length + 1
      · have hlt' : k < es'.length := by rw [HL.out]; exact hlt
        have HC := Lib.hid (hang_any wr B S _ cap' w2.heap.size es' hs' st rm (bt + s.size) hSr HIr.out.pos k hlt' (by rw [HL.out]; omega) (by rw [HH.out]; omega) (fun q hq => Nat.le_trans (HIr.out.heads_le q hq) (Nat.le_of_lt hlt')))
        go_wp2_with (go_at_call 45; refine HC.out.mono ?_; rintro e w8 ⟨rfl, hS8, hF8⟩)
        go_roundw
        case rel => exact ⟨k + 1, _, _, by go_num, by omega, by show List.length _ = _; rw [List.length_set]; exact HL.out, hS8, HIr.out.hang hlt', by
          show List.map _ _ = _
          rw [← HM.out, List.map_set]
          exact set_same (by simpa using hlt') (by simp), by show List.length _ = _; rw [List.length_set]; exact HH.out, hFr.trans hF8 (by
            rintro j hj (rfl | ⟨g, hg, rfl⟩)
            · omega
            · injection hg with hg
              injection hg with hg
              subst hg
              exact block_of_at hat hS2.ents (Nat.le_succ_of_le hb.size) hj)⟩
        case measure => simp [intOf]; omega
      · have HK : Hid (k = es.length + 1) := by show k = _; omega
        have j0 := hSr.box.cell 0
        simp at j0
        rw [HL.out] at j0
        go_wp2
        go_ret3
        refine ⟨rfl, some ⟨g', 0, none⟩, cap', w2.heap.size, es', hs', hSr, by rw [HL.out, ← HK.out]; exact HIr.out, HM.out, by rw [HH.out, HL.out]; omega, hFr, .inr hwN, ?_⟩
        intro g hg
        injection hg with hg
        injection hg with hg
        subst hg
        exact head_of_at hat hS2.ents (Nat.le_succ_of_le hb.size)
end
end Go.Proofs.Ytpednhcfkjjcpaa.St
