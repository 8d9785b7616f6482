/- The store of chapter 19: its chains; hash, find, hang. (turned out of wip/store) -/
import Derived.Test.YtpednhcfkjjcpaaNa
import Derived.WalkKit
import Derived.WalkSpells
import Derived.WalkLawsBesides
import Derived.BigQuiet
import Derived.Deep.QuietTactic
import Derived.StillTailTactics
import Derived.Deep.Draws
import Derived.Lib.Hide
namespace Go.Proofs.Ytpednhcfkjjcpaa.St
open Go.RowKit
set_option linter.unusedVariables false
set_option linter.unusedSimpArgs false
section
/-- The greatest number below n that p takes, plus one; 0: none. -/
def lastUp (p : Nat → Bool) : Nat → Nat
  | 0 => 0
  | n + 1 => if p n then n + 1 else lastUp p n

theorem lastUp_le (p : Nat → Bool) (n : Nat) : lastUp p n ≤ n := by
  induction n with
  | zero => exact Nat.le_refl _
  | succ n ih => unfold lastUp; split <;> omega

theorem lastUp_congr {p q : Nat → Bool} {n : Nat} (h : ∀ j, j < n → p j = q j) : lastUp p n = lastUp q n := by
  induction n with
  | zero => rfl
  | succ n ih => unfold lastUp; rw [h n (by omega), ih (fun j hj => h j (by omega))]

theorem lastUp_none {p : Nat → Bool} {n : Nat} (h : lastUp p n = 0) : ∀ j, j < n → p j = false := by
  induction n with
  | zero => intro j hj; omega
  | succ n ih =>
    unfold lastUp at h
    intro j hj
    split at h
    · omega
    · rename_i hn
      by_cases e : j = n
      · subst e; simpa using hn
      · exact ih h j (by omega)

theorem lastUp_some {p : Nat → Bool} {n k : Nat} (h : lastUp p n = k + 1) : p k = true ∧ k < n ∧ ∀ j, k < j → j < n → p j = false := by
  induction n with
  | zero => simp [lastUp] at h
  | succ n ih =>
    unfold lastUp at h
    split at h
    · rename_i hn
      have : k = n := by omega
      subst this
      exact ⟨hn, by omega, fun j _ _ => by omega⟩
    · rename_i hn
      obtain ⟨a, b, c⟩ := ih h
      refine ⟨a, by omega, fun j h1 h2 => ?_⟩
      by_cases e : j = n
      · subst e; simpa using hn
      · exact c j h1 (by omega)

/-- One byte of FNV-1a. -/
def hprime : Nat := 1099511628211
def hstep (h : Nat) (c : UInt8) : Nat := ((h ^^^ c.toNat) * hprime) % 18446744073709551616
def hseed : Nat := 14695981039346656037
def hashN (l : List UInt8) : Nat := l.foldl hstep hseed

theorem mod_big (x : Nat) : x % 18446744073709551616 < 18446744073709551616 := Nat.mod_lt x (by omega)
theorem hstep_lt (h : Nat) (c : UInt8) : hstep h c < 18446744073709551616 := mod_big _
theorem hashN_snoc (l : List UInt8) (c : UInt8) : hashN (l ++ [c]) = hstep (hashN l) c := by unfold hashN; rw [List.foldl_append, List.foldl_cons, List.foldl_nil]
theorem big_lt {a : Nat} (h : a = 14695981039346656037) : a < 18446744073709551616 := by omega
theorem hseed_lt : hseed < 18446744073709551616 := big_lt rfl
theorem hashN_lt (l : List UInt8) : hashN l < 18446744073709551616 := by
  rcases List.eq_nil_or_concat l with h | ⟨l', c, h⟩
  · rw [h, show hashN [] = hseed from rfl]; exact hseed_lt
  · rw [h, List.concat_eq_append, hashN_snoc]; exact hstep_lt _ _

abbrev Ent := ByteArray × Nat
def hOf (s : ByteArray) : Nat := hashN s.data.toList
theorem hOf_lt (s : ByteArray) : hOf s < 18446744073709551616 := hashN_lt _
def entCells (e : Ent) : List Value := [.string e.1, .int .u64 (hOf e.1 : Int), .int .i64 (e.2 : Int)]
def flat (es : List Ent) : List Value := es.flatMap entCells

theorem flat_nil : flat [] = [] := rfl
theorem flat_cons (e : Ent) (es : List Ent) : flat (e :: es) = entCells e ++ flat es := by simp [flat]
theorem flat_append (a b : List Ent) : flat (a ++ b) = flat a ++ flat b := by simp [flat]
theorem flat_length (es : List Ent) : (flat es).length = es.length * 3 := by
  induction es with
  | nil => rfl
  | cons e es ih => rw [flat_cons, List.length_append, ih, List.length_cons]; simp [entCells]; omega

theorem flat_get (es : List Ent) : ∀ (i : Nat) (hi : i < es.length),
    (flat es)[i * 3]? = some (.string es[i].1) ∧ (flat es)[i * 3 + 1]? = some (.int .u64 (hOf es[i].1 : Int)) ∧ (flat es)[i * 3 + 2]? = some (.int .i64 (es[i].2 : Int)) := by
  induction es with
  | nil => intro i hi; simp at hi
  | cons e es ih =>
    intro i hi
    rw [flat_cons]
    cases i with
    | zero => simp [entCells]
    | succ i =>
      have h3 : (entCells e).length = 3 := rfl
      obtain ⟨a, b, c⟩ := ih i (by simpa using hi)
      rw [show (i + 1) * 3 = (entCells e).length + i * 3 from by omega, List.getElem?_append_right (by omega), List.getElem?_append_right (by omega), List.getElem?_append_right (by omega)]
      refine ⟨?_, ?_, ?_⟩
      · rw [show (entCells e).length + i * 3 - (entCells e).length = i * 3 from by omega]; exact a
      · rw [show (entCells e).length + i * 3 + 1 - (entCells e).length = i * 3 + 1 from by omega]; exact b
      · rw [show (entCells e).length + i * 3 + 2 - (entCells e).length = i * 3 + 2 from by omega]; exact c

theorem flat_set (es : List Ent) : ∀ (i : Nat) (hi : i < es.length) (k : Nat),
    flat (es.set i (es[i].1, k)) = (flat es).set (i * 3 + 2) (.int .i64 (k : Int)) := by
  induction es with
  | nil => intro i hi; simp at hi
  | cons e es ih =>
    intro i hi k
    cases i with
    | zero => simp [flat_cons, entCells]
    | succ i =>
      have h3 : (entCells e).length = 3 := rfl
      simp only [List.set_cons_succ, flat_cons, List.getElem_cons_succ]
      rw [ih i (by simpa using hi) k, List.set_append_right _ _ (by omega)]
      congr 2
      omega

/-- The hash of entry j. -/
def hk (es : List Ent) (j : Nat) : Nat := hOf (es.getD j (ByteArray.empty, 0)).1

/-- The chains hold the first n entries. -/
structure Inv (n : Nat) (es : List Ent) (hs : List Nat) : Prop where
  pos : 0 < hs.length
  nx : ∀ i, i < n → (es.getD i (ByteArray.empty, 0)).2 = lastUp (fun j => hk es j % hs.length == hk es i % hs.length) i
  heads : ∀ k, k < hs.length → hs.getD k 0 = lastUp (fun j => hk es j % hs.length == k) n

theorem Inv.zero (es : List Ent) (m : Nat) (hm : 0 < m) : Inv 0 es (List.replicate m 0) :=
  ⟨by simpa using hm, fun i hi => by omega, fun k hk => by simp [lastUp] at *; simp [hk]⟩

theorem getD_app {α : Type} (l r : List α) (d : α) (j : Nat) (hj : j < l.length) : (l ++ r).getD j d = l.getD j d := by
  simp [List.getElem?_append_left hj]

theorem hk_append {es : List Ent} {e : Ent} {j : Nat} (hj : j < es.length) : hk (es ++ [e]) j = hk es j := by
  unfold hk; rw [getD_app _ _ _ _ hj]

theorem Inv.append {n : Nat} {es : List Ent} {hs : List Nat} (h : Inv n es hs) (hn : n ≤ es.length) (e : Ent) : Inv n (es ++ [e]) hs where
  pos := h.pos
  nx i hi := by
    rw [getD_app _ _ _ _ (by omega), h.nx i hi]
    refine lastUp_congr fun j hj => ?_
    rw [hk_append (by omega), hk_append (by omega)]
  heads k hk' := by
    rw [h.heads k hk']
    refine lastUp_congr fun j hj => ?_
    rw [hk_append (by omega)]

theorem hk_set {es : List Ent} {i k j : Nat} (hi : i < es.length) : hk (es.set i (es[i].1, k)) j = hk es j := by
  unfold hk
  by_cases e : i = j
  · subst e; simp [hi]
  · simp [List.getElem?_set_ne e]

/-- hang. -/
theorem Inv.hang {n : Nat} {es : List Ent} {hs : List Nat} (h : Inv n es hs) (hn : n < es.length) :
    Inv (n + 1) (es.set n (es[n].1, hs.getD (hk es n % hs.length) 0)) (hs.set (hk es n % hs.length) (n + 1)) where
  pos := by simpa using h.pos
  nx i hi := by
    simp only [List.length_set, hk_set hn]
    by_cases e : i = n
    · subst e
      have hx := h.heads (hk es i % hs.length) (Nat.mod_lt _ h.pos)
      simp [hn] at hx ⊢
      exact hx
    · have hx := h.nx i (by omega)
      rw [← hx]
      simp [List.getElem?_set_ne (Ne.symm e)]
  heads k hk' := by
    simp only [List.length_set] at hk' ⊢
    simp only [hk_set hn, lastUp]
    by_cases e : hk es n % hs.length = k
    · subst e
      simp [hk']
    · have hx := h.heads k hk'
      simp [e] at hx ⊢
      exact hx
end
section
theorem ret_u64 {a b : Int} (h : a = b) : Ending.returned (.int .u64 a) = .returned (.int .u64 b) := by rw [h]

theorem take_snoc (s : ByteArray) (k : Nat) (h : k < s.size) : s.data.toList.take (k + 1) = s.data.toList.take k ++ [s[k]] := by
  rw [List.take_succ_eq_append_getElem (by simpa using h)]; rfl

theorem hash_take (s : ByteArray) (k : Nat) (h : k < s.size) : hashN (s.data.toList.take (k + 1)) = hstep (hashN (s.data.toList.take k)) s[k] := by
  rw [take_snoc s k h, hashN_snoc]

theorem hash_step (h : Nat) (hh : h < 18446744073709551616) (c : UInt8) : IntKind.u64.wrap (bits .xor .u64 (h : Int) (IntKind.u64.wrap (c.toNat : Int)) * 1099511628211) = (hstep h c : Int) := by
  have hc : c.toNat < 256 := c.toNat_lt
  have e1 : IntKind.u64.wrap (c.toNat : Int) = (c.toNat : Int) := by rw [IntKind.wrap_u64]; omega
  have e2 : (hstep h c : Int) = (((h ^^^ c.toNat) * hprime : Nat) : Int) % 18446744073709551616 := by unfold hstep; exact Int.natCast_emod _ _
  rw [e1, u64_xor_nat h c.toNat hh (by omega), IntKind.wrap_u64, e2, Int.natCast_mul]
  rfl

set_option maxHeartbeats 400000 in
theorem hash_any (s : ByteArray) (w : World) (hs : s.size ≤ maxLen) :
    Calls Try.prog 43 #[.string s] w fun e w' => e = .returned (.int .u64 (hOf s : Int)) ∧ w = w' := by
  unfold maxLen at hs
  go_enter Try.func43, Try.ntmps43
  go_wp2
  go_loop [3, 4, 7] (fun h _ i => ∃ k : Nat, k ≤ s.size ∧ i = .int .i64 k ∧ h = .int .u64 (hashN (s.data.toList.take k))) (fun _ _ i => s.size - (intOf i).toNat)
  case atStart => exact ⟨0, Nat.zero_le _, rfl, rfl⟩
  case round =>
    obtain ⟨k, hk, rfl, rfl⟩ := hrel
    by_cases hlt : k < s.size
    · have HS : Hid (IntKind.u64.wrap (bits .xor .u64 (hashN (s.data.toList.take k) : Int) (IntKind.u64.wrap (s[k].toNat : Int)) * 1099511628211) = (hashN (s.data.toList.take (k + 1)) : Int)) := by
        rw [hash_take s k hlt]; exact hash_step _ (hashN_lt _) _
      go_wp2
      go_round
      case rel => exact ⟨k + 1, by omega, by go_num, by rw [HS.out]⟩
      case measure => simp [intOf]; omega
    · go_wp2
      go_ret
      exact ⟨ret_u64 (by rw [List.take_of_length_le (by simp; omega)]; rfl), rfl⟩
end
section
/-- The store in memory: its struct, its entries, its heads. -/
structure StoreIs (w : World) (B S : Nat) (a : Option Addr) (cap gh : Nat) (es : List Ent) (hs : List Nat) (st rm : Int) (bt : Nat) : Prop where
  box : Holds w S 112 [.slice a es.length cap, .slice (some ⟨gh, 0, none⟩) hs.length hs.length, .int .i64 st, .int .i64 rm, .int .i64 (bt : Int)]
  bS : B ≤ S
  ents : w.ownsRow B 129 3 (.slice a es.length cap) es.length (flat es)
  bH : B ≤ gh
  heads : Holds w gh 3 (hs.map fun (k : Nat) => Value.int .i64 (k : Int))

/-- What find answers. -/
def FindIs (es : List Ent) (s : ByteArray) (r : Int) : Prop :=
  (r = -1 ∧ ∀ i, i < es.length → (es.getD i (ByteArray.empty, 0)).1 ≠ s) ∨ ∃ i : Nat, i < es.length ∧ r = i ∧ (es.getD i (ByteArray.empty, 0)).1 = s
end
section
def FindPost (es : List Ent) (s : ByteArray) (w : World) (e : Ending) (w' : World) : Prop :=
  ∃ r : Int, e = .returned (.int .i64 r) ∧ FindIs es s r ∧ Below w.heap.size w w'

/-- An own row that is not empty has a head. -/
theorem owns_head {w : World} {base : Nat} {e : TypeId} {size n cap : Nat} {a : Option Addr} {xs : List Value} (h : w.ownsRow base e size (.slice a n cap) n xs) (hn : 0 < n) :
    ∃ g, a = some ⟨g, 0, none⟩ ∧ base ≤ g ∧ g < w.heap.size ∧ n ≤ cap ∧ cap ≤ maxLen ∧ (∀ j, j < n * size → w.cell? ⟨g, j, none⟩ = xs[j]?) ∧ ∀ j, w.frozen? ⟨g, j, none⟩ = false := by
  rcases h.2 with ⟨h0, h1⟩ | ⟨g, cap', cur, hv, hb, hg, hnc, hcm, hcs, ht⟩
  · omega
  · have hv' := hv
    injection hv with h1 h2 h3
    subst h1; subst h3
    exact ⟨g, rfl, hb, (Array.getElem?_eq_some_iff.1 hg).1, hnc, hcm, fun j hj => h.cellAt j hj, fun j => h.frozenAt j⟩

theorem ent_cells {w : World} {B : Nat} {a : Option Addr} {cap : Nat} {es : List Ent} (h : w.ownsRow B 129 3 (.slice a es.length cap) es.length (flat es)) {k : Nat} (hk : k < es.length) :
    ∃ g, a = some ⟨g, 0, none⟩ ∧ B ≤ g ∧ g < w.heap.size ∧ es.length ≤ cap ∧ w.cell? ⟨g, k * 3, none⟩ = some (.string es[k].1) ∧ w.cell? ⟨g, k * 3 + 1, none⟩ = some (.int .u64 (hOf es[k].1 : Int)) ∧
      w.cell? ⟨g, k * 3 + 2, none⟩ = some (.int .i64 (es[k].2 : Int)) ∧ ∀ j, w.frozen? ⟨g, j, none⟩ = false := by
  obtain ⟨g, ha, hb, hg, hc, _, hx, hf⟩ := owns_head h (by omega)
  obtain ⟨x, y, z⟩ := flat_get es k hk
  exact ⟨g, ha, hb, hg, hc, (hx _ (by omega)).trans x, (hx _ (by omega)).trans y, (hx _ (by omega)).trans z, hf⟩

theorem bytes_eq {a b : ByteArray} (h : (a.toList == b.toList) = true) : a = b := by
  have h' : a.toList = b.toList := by simpa using h
  rw [ByteArray.toList_eq, ByteArray.toList_eq] at h'
  exact ByteArray.ext (Array.ext' h')
theorem bytes_ne {a b : ByteArray} (h : (a.toList == b.toList) = false) : a ≠ b := by
  rintro rfl
  simp at h

/-- None of the entries from j on, nor any of another chain. -/
theorem miss_chain {es : List Ent} {m j q : Nat} {s : ByteArray} (hq : lastUp (fun j => hk es j % m == hOf s % m) j = q)
    (hn : ∀ i, j ≤ i → i < es.length → (es.getD i (ByteArray.empty, 0)).1 ≠ s) : ∀ i, q ≤ i → i < es.length → (es.getD i (ByteArray.empty, 0)).1 ≠ s := by
  intro i h1 h2
  by_cases h3 : j ≤ i
  · exact hn i h3 h2
  · have hf : (hk es i % m == hOf s % m) = false := by
      cases q with
      | zero => exact lastUp_none hq i (by omega)
      | succ k => exact (lastUp_some hq).2.2 i (by omega) (by omega)
    intro e
    unfold hk at hf
    rw [e] at hf
    simp at hf

theorem next_chain {es : List Ent} {hs : List Nat} (hI : Inv es.length es hs) {k : Nat} (hk' : k < es.length) {H : Nat} (hH : hk es k % hs.length = H % hs.length) :
    lastUp (fun j => hk es j % hs.length == H % hs.length) k = (es[k].2) := by
  have h := hI.nx k hk'
  rw [List.getD_eq_getElem?_getD, List.getElem?_eq_getElem hk'] at h
  rw [← hH]
  exact h.symm

set_option maxHeartbeats 400000 in
theorem find_any (w : World) (B S : Nat) (a : Option Addr) (cap gh : Nat) (es : List Ent) (hs : List Nat) (st rm : Int) (bt : Nat)
    (hS : StoreIs w B S a cap gh es hs st rm bt) (hI : Inv es.length es hs) (s : ByteArray) (hl : es.length ≤ 4611686018427387904) (hm : hs.length ≤ 4611686018427387904) :
    Calls Try.prog 44 #[.pointer (some ⟨S, 0, none⟩), .string s, .int .u64 (hOf s : Int)] w (FindPost es s w) := by
  have hlt := hOf_lt s
  have hpos := hI.pos
  have c0 := hS.box.cell 0
  have c1 := hS.box.cell 1
  have hSl := hS.box.lt
  simp at c0 c1
  have hb : hOf s % hs.length < hs.length := Nat.mod_lt _ hpos
  have ch := hS.heads.cell (hOf s % hs.length)
  have hd := hI.heads _ hb
  rw [List.getElem?_map, List.getElem?_eq_getElem hb] at ch
  rw [List.getD_eq_getElem?_getD, List.getElem?_eq_getElem hb] at hd
  simp only [Option.map_some] at ch
  simp only [Option.getD_some] at hd
  rw [hd] at ch
  have hle := lastUp_le (fun j => hk es j % hs.length == hOf s % hs.length) es.length
  generalize hq : lastUp (fun j => hk es j % hs.length == hOf s % hs.length) es.length = q at *
  generalize hh : hOf s = H at *
  have HQ := Lib.hid hq
  have HH := Lib.hid hh
  clear hh hq hd
  go_enter Try.func44, Try.ntmps44
  go_wp2
  go_step3
  go_wp2
  go_quiet (fail)
  go_wp2
  go_step3
  go_wp2
  go_loopw [7] (fun n wr => ∃ q j : Nat, n = .int .i64 ((q : Int) - 1) ∧ Hid (lastUp (fun j => hk es j % hs.length == H % hs.length) j = q) ∧ q ≤ es.length ∧ j ≤ es.length ∧ Hid (∀ i, j ≤ i → i < es.length → (es.getD i (ByteArray.empty, 0)).1 ≠ s) ∧ Below w.heap.size w wr) (fun n _ => (intOf n + 1).toNat)
  case atStart => exact ⟨q, es.length, rfl, HQ, hle, Nat.le_refl _, fun i h1 h2 => by omega, below_drewN (Below.refl _ _) _⟩
  case round =>
    obtain ⟨q, j, rfl, HQ, hqe, hje, HN, hB⟩ := hrel
    have HM : Hid (∀ i, q ≤ i → i < es.length → (es.getD i (ByteArray.empty, 0)).1 ≠ s) := by
      have h1 := HQ.out
      rw [← HH.out] at h1
      exact miss_chain h1 HN.out
    by_cases h0 : q = 0
    · subst h0
      go_wp2
      rw [Exit.noGoto_ret]
      go_ret
      exact ⟨-1, rfl, .inl ⟨rfl, fun i hi => HM.out i (by omega) hi⟩, hB⟩
    · obtain ⟨k, rfl⟩ := Nat.exists_eq_succ_of_ne_zero h0
      have hk : k < es.length := by omega
      obtain ⟨g, rfl, _, hg, hc, e0, e1, e2, _⟩ := ent_cells hS.ents hk
      have f0 := (hB.cell (p := ⟨g, k * 3, none⟩) hg).trans e0
      have f1 := (hB.cell (p := ⟨g, k * 3 + 1, none⟩) hg).trans e1
      have f2 := (hB.cell (p := ⟨g, k * 3 + 2, none⟩) hg).trans e2
      have d0 := (hB.cell (p := ⟨S, 0, none⟩) hSl).trans c0
      have HX : Hid (lastUp (fun j => St.hk es j % hs.length == H % hs.length) k = es[k].2) := by
        refine next_chain hI hk ?_
        have := (lastUp_some HQ.out).1
        simpa using this
      have hn2 : es[k].2 ≤ k := by rw [← HX.out]; exact lastUp_le _ _
      have HS : Hid ((es.getD k (ByteArray.empty, 0)).1 = es[k].1) := by rw [List.getD_eq_getElem?_getD, List.getElem?_eq_getElem hk]; rfl
      clear c0 c1 e0 e1 e2
      go_wp2
      · rw [Exit.noGoto_ret]
        go_ret
        exact ⟨k, rfl, .inr ⟨k, hk, rfl, by rw [HS.out]; exact bytes_eq ‹_›⟩, hB.alloc hB.size _⟩
      · go_roundw
        case rel => exact ⟨es[k].2, k, rfl, HX, by omega, by omega, fun i h1 h2 => by
          by_cases e : i = k
          · subst e; rw [HS.out]; exact bytes_ne ‹_›
          · exact HM.out i (by omega) h2, hB.alloc hB.size _⟩
        case measure => simp [intOf]; omega
      · have hne : ¬ ((hOf es[k].1 : Int) = (H : Int)) := by assumption
        have HE : Hid (es[k].1 ≠ s) := fun e => hne (by rw [e, HH.out])
        go_roundw
        case rel => exact ⟨es[k].2, k, rfl, HX, by omega, by omega, fun i h1 h2 => by
          by_cases e : i = k
          · subst e; rw [HS.out]; exact HE.out
          · exact HM.out i (by omega) h2, hB.alloc hB.size _⟩
        case measure => simp [intOf]; omega
end
section
def HangPost (w : World) (B S : Nat) (a : Option Addr) (cap gh : Nat) (es : List Ent) (hs : List Nat) (st rm : Int) (bt : Nat) (e : Ending) (w' : World) : Prop :=
  e = .returned (.tuple #[]) ∧ StoreIs w' B S a cap gh es hs st rm bt ∧ Fr (fun k => k = gh ∨ ∃ g, a = some ⟨g, 0, none⟩ ∧ k = g) w w'

/-- An entry's link and a head are written. -/
theorem store_hung {w : World} {B S g cap gh : Nat} {es : List Ent} {hs : List Nat} {st rm : Int} {bt : Nat} (hS : StoreIs w B S (some ⟨g, 0, none⟩) cap gh es hs st rm bt) (n : Nat) (hn : n < es.length) (k : Nat)
    (hgS : g ≠ S) (hgh : g ≠ gh) (hSh : S ≠ gh) (q m : Nat) (x : Nat) :
    StoreIs (((w.drewN x).setCell ⟨g, n * 3 + 2, none⟩ (.int .i64 (q : Int))).setCell ⟨gh, k, none⟩ (.int .i64 (m : Int))) B S (some ⟨g, 0, none⟩) cap gh (es.set n (es[n].1, q)) (hs.set k m) st rm bt where
  box := by
    have h : Holds (w.drewN x) S 112 _ := hS.box
    have h2 := (h.far (p := ⟨g, n * 3 + 2, none⟩) (Ne.symm hgS) (.int .i64 (q : Int))).far (p := ⟨gh, k, none⟩) hSh (.int .i64 (m : Int))
    simpa using h2
  bS := hS.bS
  ents := by
    have h : (w.drewN x).ownsRow B 129 3 _ _ _ := hS.ents
    have h1 := (h.stored (n * 3 + 2) (.int .i64 (q : Int))).1
    rw [← flat_set es n hn q] at h1
    have h2 := (Fr.refl (fun i => i = gh) _).setCell (a := (w.drewN x).setCell ⟨g, n * 3 + 2, none⟩ (.int .i64 (q : Int))) (p := ⟨gh, k, none⟩) (fun _ => rfl) (.int .i64 (m : Int))
    have h3 := h2.owns h1 (fun i hi => by have : g = i := by simpa [Value.ownBlock] using hi
                                          subst this; exact hgh)
    simpa using h3
  bH := hS.bH
  heads := by
    have h : Holds (w.drewN x) gh 3 _ := hS.heads
    have h2 := (h.far (p := ⟨g, n * 3 + 2, none⟩) (Ne.symm hgh) (.int .i64 (q : Int))).put k (.int .i64 (m : Int))
    rw [List.map_set]
    exact h2

set_option maxHeartbeats 400000 in
theorem hang_any (w : World) (B S : Nat) (a : Option Addr) (cap gh : Nat) (es : List Ent) (hs : List Nat) (st rm : Int) (bt : Nat)
    (hS : StoreIs w B S a cap gh es hs st rm bt) (hpos : 0 < hs.length) (n : Nat) (hn : n < es.length) (hl : es.length ≤ 4611686018427387904) (hm : hs.length ≤ 4611686018427387904) (hle : ∀ q ∈ hs, q ≤ es.length) :
    Calls Try.prog 45 #[.pointer (some ⟨S, 0, none⟩), .int .i64 n] w
      (HangPost w B S a cap gh (es.set n (es[n].1, hs.getD (St.hk es n % hs.length) 0)) (hs.set (St.hk es n % hs.length) (n + 1)) st rm bt) := by
  have hlt := hOf_lt es[n].1
  have hSl := hS.box.lt
  have c0 := hS.box.cell 0
  have c1 := hS.box.cell 1
  simp at c0 c1
  obtain ⟨g, rfl, _, hg, hc, e0, e1, e2, hf⟩ := ent_cells hS.ents hn
  have f2 := hf (n * 3 + 2)
  have HK : Hid (St.hk es n = hOf es[n].1) := by show hOf _ = _; rw [List.getD_eq_getElem?_getD, List.getElem?_eq_getElem hn]; rfl
  rw [HK.out]
  generalize hH : hOf es[n].1 = H at *
  have hb : H % hs.length < hs.length := Nat.mod_lt _ hpos
  have ch := hS.heads.cell (H % hs.length)
  have fh := hS.heads.free (H % hs.length)
  have hgS : g ≠ S := fun e => owns_ne_holds hS.ents hS.box (by decide) (by rw [← e]; rfl)
  have hgh : g ≠ gh := fun e => owns_ne_holds hS.ents hS.heads (by decide) (by rw [← e]; rfl)
  have hSh : S ≠ gh := hS.box.ne_of_type hS.heads (by decide)
  have hgl := hS.heads.lt
  rw [List.getElem?_map, List.getElem?_eq_getElem hb] at ch
  simp only [Option.map_some] at ch
  have hq : hs[H % hs.length] ≤ es.length := hle _ (List.getElem_mem hb)
  rw [show hs.getD (H % hs.length) 0 = hs[H % hs.length] from by rw [List.getD_eq_getElem?_getD, List.getElem?_eq_getElem hb]; rfl]
  generalize hs[H % hs.length] = q at *
  have HH := Lib.hid hH
  clear hH hf hle
  go_enter Try.func45, Try.ntmps45
  go_wp2
  go_quiet (fail)
  go_wp2
  go_region
  go_wp2
  go_end0
  refine ⟨rfl, ?_, ?_⟩
  · exact store_hung hS n hn _ hgS hgh hSh q (n + 1) _
  · exact (((Fr.refl _ w).drewN _).setCell (fun _ => .inr ⟨g, rfl, rfl⟩) _).setCell (fun _ => .inl rfl) _
end
end Go.Proofs.Ytpednhcfkjjcpaa.St
