/- Tur, Cpy, Shp, Spl, Owm, Own, Rnum, Rdec, Rnums, Rchk, Rmv, Rms, Rlk, Rnx, All, Alw, Gal, joined. -/
import Derived.Test.YtcopoaaofjeklaaMa7
import Derived.Laws.CopyRow
import Derived.Test.YtcopoaaofjeklaaMa1
import Derived.Test.YtcopoaaofjeklaaMa2
import Derived.Test.YtcopoaaofjeklaaNums
import Derived.Test.YtcopoaaofjeklaaMa9
section
/- What lies in memory while arcs are turned. -/
namespace Go.Proofs.Ytcopoaaofjeklaa
open Go.RowKit
set_option linter.unusedVariables false
set_option linter.unusedSimpArgs false

/-- A row that is not empty, taken apart. -/
theorem RowL.some {P : Nat → Prop} {w : World} {size n : Nat} {v : Value} {f : List Value} (h : RowL P w size v n f) (hn : 0 < n) : ∃ g o cap, v = .slice (some ⟨g, o, none⟩) n cap := by
  obtain ⟨a, cap, h1, _, _, _, _, h6⟩ := h
  obtain ⟨g, o, _, _, h7, _⟩ := h6 hn
  exact ⟨g, o, cap, by rw [h1, h7]⟩
theorem str_at {P : Nat → Prop} {w : World} {g o L cap : Nat} {st : List Nat} (h : RowL P w 1 (.slice (some ⟨g, o, none⟩) L cap) L (st.map fun m => .string (keyS m))) {j k : Nat} (hj : j < L) (hk : st[j]? = some k) : w.cell? ⟨g, o + j, none⟩ = some (.string (keyS k)) := by
  obtain ⟨g', o', cap', x, h1, h2, h3⟩ := h.at1 hj
  injection h1 with h1 _ _
  injection h1 with h1
  injection h1 with h1 h1'
  subst h1 h1'
  rw [List.getElem?_map, hk] at h2
  injection h2 with h2
  rw [h3, ← h2]
theorem node_at {P : Nat → Prop} {w : World} {gg og L cg : Nat} {g : PNet} {fg : List Value} (h : RowL P w 5 (.slice (some ⟨gg, og, none⟩) L cg) L fg) (hg : LsF NodeF P w g fg) (hl : g.length = L) {j : Nat} (hj : j < L) {x : PNode} (hx : g[j]? = some x) :
    ∃ a c, w.cell? ⟨gg, og + j * 5, none⟩ = some (.slice a x.arcs.length c) ∧ w.cell? ⟨gg, og + j * 5 + 1, none⟩ = some (.int .u64 (x.props : Int)) := by
  subst hl
  obtain ⟨gb, ob, cb, c, h1, h2, h3⟩ := h.atN oneNode hg hj
  injection h1 with h1 _ _
  injection h1 with h1
  injection h1 with h1 h1'
  subst h1 h1'
  rw [List.getElem?_eq_getElem hj] at hx
  injection hx with hx
  rw [hx] at h2
  obtain ⟨va, rfl, f, h4, _⟩ := h2
  obtain ⟨a, k, rfl, _⟩ := h4.form
  exact ⟨a, k, h3 0 _ rfl, h3 1 _ rfl⟩
theorem below_drewN {B : Nat} {a w : World} (h : Below B a w) (n : Nat) : Below B a (w.drewN n) := ⟨h.os, h.tape, h.output, h.size, h.block⟩
theorem bytes_eq {a b : ByteArray} (h : (a.toList == b.toList) = true) : a = b := by
  have h' : a.toList = b.toList := by simpa using h
  rw [ByteArray.toList_eq, ByteArray.toList_eq] at h'
  exact ByteArray.ext (Array.ext' h')
theorem rev_step {l : List PArc} {j : Nat} (hj : j < l.length) : l.reverse.take (j + 1) = l.reverse.take j ++ [l[l.length - 1 - j]] := by
  rw [List.take_add_one, List.getElem?_eq_getElem (by simpa using hj), List.getElem_reverse]
  rfl
theorem rev_step' {l : List PArc} {j kk : Nat} {a : PArc} (hj : j < l.length) (hk : kk = l.length - 1 - j) (hl : kk < l.length) (ha : l[kk] = a) : l.reverse.take (j + 1) = l.reverse.take j ++ [a] := by
  subst hk
  rw [rev_step hj, ha]
theorem turn_small {N : PNet} (hs : Small N) (hc : chk N = true) (hl : N.length < 20000) : Small (turnN N) := small_chk (turn_chk hc hl) fun x hx b hb => by
  unfold turnN at hx
  rcases List.mem_append.1 hx with hx | hx
  · obtain ⟨y, hy, rfl⟩ := List.mem_map.1 hx
    exact hs.mem hy (by simpa [revX] using hb)
  · rw [List.mem_singleton] at hx
    subst hx
    cases hb
end Go.Proofs.Ytcopoaaofjeklaa
end
section
/- copy of a row of things of any size into a block of the call's own; the statements' list, write and pick. -/
namespace Go.Proofs.Ytcopoaaofjeklaa
open Go.RowKit
set_option linter.unusedVariables false
set_option linter.unusedSimpArgs false

/-- What lies in the block behind a copy (a name of its own, so that the walk leaves it standing). -/
structure CopyH (w : World) (g : Nat) (t : TypeId) (flat cur : List Value) : Prop where
  out : Holds w g t (flat ++ cur.drop flat.length)
section
variable {P : Program} {w : World}
theorem run_copyL {dT sT ty elem : TypeId} {sz n g dLen dCap : Nat} {R : Nat → Prop} {v : Value} {flat cur : List Value} {t : TypeId} (hu : P.underlying dT = some (.slice elem)) (hsz : (P.info? elem).map (·.size) = some sz) (hr : RowL R w sz v n flat) (hn : n ≤ dLen) (hg : Holds w g t cur) (hfit : flat.length ≤ cur.length) (h1 : ∀ u ∈ flat, u.oneCell' = true) :
    ∃ w', (Builtin.copy_ #[dT, sT] ty #[.slice (some ⟨g, 0, none⟩) dLen dCap, v]).run P w = .ok (goInt n) w' ∧ Holds w' g t (flat ++ cur.drop flat.length) ∧ Fr (fun q => q = g) w w' := by
  obtain ⟨a, cap, rfl, h2, h3, h4, h5, h6⟩ := hr
  cases hq : P.info? elem with
  | none => simp [hq] at hsz
  | some i =>
    have hi : i.size = sz := by simpa [hq] using hsz
    have hm : Nat.min n dLen = n := Nat.min_eq_left hn
    have hst := run_storeCells_at P g 0 t flat 0 cur.toArray w hg (by simpa using hfit) h1
    simp only [Nat.zero_add, List.take_zero, List.nil_append] at hst
    have hfr : Fr (fun q => q = g) w (w.setRow g (flat ++ cur.toArray.toList.drop flat.length).toArray) := ⟨rfl, rfl, rfl, by simp [World.setRow], fun k _ hk => setRow_other w g k _ hk⟩
    have hhd : Holds (w.setRow g (flat ++ cur.toArray.toList.drop flat.length).toArray) g t (flat ++ cur.drop flat.length) := by
      have := setRow_heap w g cur.toArray (flat ++ cur.toArray.toList.drop flat.length).toArray t (0, 0) hg
      simpa [Holds] using this
    refine ⟨_, ?_, hhd, hfr⟩
    by_cases hn0 : n = 0
    · subst hn0
      obtain rfl : flat = [] := List.eq_nil_of_length_eq_zero (by rw [h4, Nat.zero_mul])
      have hl : ∀ (x : Addr), (loadCells x 0).run P w = .ok #[] w := fun x => by simpa using run_loadCells_list (P := P) w x [] (by simp)
      cases a <;> simp [Builtin.copy_, run_underlying hu, Builtin.lenOf, Builtin.firstCells, sizeOf, typeInfo, hq, hl, hst]
    · obtain ⟨g', o', cs, t', rfl, _, k3, k4⟩ := h6 (by omega)
      have hl := run_loadCells_list (P := P) w ⟨g', o', none⟩ flat (fun j u hj => by
        have hjl := (List.getElem?_eq_some_iff.1 hj).1
        rw [Addr.add_lit, k3.cell, k4 j (by omega)]
        exact hj)
      rw [h4] at hl
      simp [Builtin.copy_, run_underlying hu, Builtin.lenOf, Builtin.firstCells, sizeOf, typeInfo, hq, hi, hm, hl, hst]
theorem wpList_copyL {ops : Array Oper} {rest : List Oper} {o : Oper} {a : Act} {Q : Exit → Act → World → Prop} (hgd : o.guard = none) (d s : Operand) (dT sT : TypeId) (ho : o.op = .call { callee := .builtin .copy, args := #[d, s], argTypes := #[dT, sT] })
    (elem : TypeId) (sz : Nat) (hu : P.underlying dT = some (.slice elem)) (hsz : (P.info? elem).map (·.size) = some sz) (g dLen dCap n : Nat) (hd : a.eval d = .slice (some ⟨g, 0, none⟩) dLen dCap) (v : Value) (hs : a.eval s = v) {R : Nat → Prop} (flat : List Value) (hr : RowL R w sz v n flat) (hn : n ≤ dLen) {t : TypeId} (cur : List Value) (hg : Holds w g t cur) (hfit : flat.length ≤ cur.length) (h1 : ∀ u ∈ flat, u.oneCell' = true)
    (h : ∀ w', CopyH w' g t flat cur → Fr (fun q => q = g) w w' → wpList P ops Q rest (a.put o.dst (goInt n)) w') : wpList P ops Q (o :: rest) a w := by
  refine wpList_plain hgd fun K hK => ?_
  obtain ⟨w', hrun, r1, r2⟩ := run_copyL (dT := dT) (sT := sT) (ty := o.type) (dCap := dCap) hu hsz hr hn hg hfit h1
  unfold Oper.wp
  simp [execOp, ho, resolve, invoke, builtin, hd, hs, hrun, Result.andThen]
  exact hK _ _ (h w' ⟨r1⟩ r2)
end
section
variable {P : Program} {ops : Array Oper} {Q : Exit → Act → World → Prop} {a : Act} {w : World} {rest : List Oper} {o : Oper}
theorem halt_call2 (c : Call) (ho : o.op = .call c) (h : Stop (wpList P ops Q (o :: rest) a w)) : wpList P ops Q (o :: rest) a w := h.out
theorem halt_store (ty : TypeId) (x y : Operand) (ho : o.op = .store ty x y) (h : Stop (wpList P ops Q (o :: rest) a w)) : wpList P ops Q (o :: rest) a w := h.out
end
theorem owns_all {w : World} {base sz n : Nat} {t : TypeId} {g : Nat} {flat : List Value} (h : w.ownsRow base t sz (.slice (some ⟨g, 0, none⟩) n n) n flat) : Holds w g t flat ∧ base ≤ g := by
  rcases h.2 with ⟨h0, _⟩ | ⟨g', cap, cur, hv, hb, hg, _, _, hcs, ht⟩
  · cases h0
  · injection hv with hv _ hc
    injection hv with hv
    injection hv with hv _
    subst hv
    subst hc
    rw [← hcs, ← Array.length_toList, List.take_length] at ht
    exact ⟨by rw [← ht]; unfold Holds; simpa using hg, hb⟩
structure MadeH (w : World) (g : Nat) (t : TypeId) (n : Nat) : Prop where
  out : ∃ cur, Holds w g t cur ∧ cur.length = n
theorem wpList_makeL {P : Program} {w : World} {ops : Array Oper} {rest : List Oper} {o : Oper} {a : Act} {Q : Exit → Act → World → Prop} (hgd : o.guard = none) (l c : Operand) (t : TypeId) (ho : o.op = .makeSlice t l c) (e : TypeId) (sz bytes : Nat) (ht : P.underlying t = some (.slice e))
    (hinfo : (P.info? e).map (fun i => (i.zero.map fun z => z.cells.size, i.size, i.bytes)) = some (some sz, sz, bytes)) (kl kc : IntKind) (L C : Int) (n : Nat) (hl : a.eval l = .int kl L) (hc : a.eval c = .int kc C) (hL : L = (n : Int)) (hC : C = (n : Int)) (hb : bytes * n ≤ 281474976710656) (hn : n ≤ maxLen)
    (h : ∀ w', MadeH w' w.heap.size e (n * sz) → Below w.heap.size w w' → wpList P ops Q rest (a.put o.dst (.slice (some ⟨w.heap.size, 0, none⟩) n n)) w') : wpList P ops Q (o :: rest) a w := by
  obtain ⟨i, z, h1, h2, h3, h4, h5⟩ := info_of hinfo
  refine wpList_make_full w hgd l c t ho w.heap.size e i z sz ht h1 h2 h3 kl kc L C n hl hc hL hC (by rw [h4]; exact hb) hn (Nat.le_refl _) fun w' hown hgr => ?_
  exact h w' ⟨_, (owns_all hown).1, hown.1⟩ ((Below.refl _ w).grown hgr (Nat.le_refl _) fun k hk => by cases hk)
/-- A row of numbers of its own, with a cell to spare. -/
def ListPost (l : List Int) (w : World) (e : Ending) (w' : World) : Prop := Below w.heap.size w w' ∧ ∃ g, e = .returned (.slice (some ⟨g, 0, none⟩) l.length (l.length + 1)) ∧ w.heap.size ≤ g ∧ Holds w' g 3 (l.map intV ++ [.int .i64 77])
end Go.Proofs.Ytcopoaaofjeklaa
end
section
/- Rows that may be written into, whatever they hold: shapes that stand while such rows are spoilt; the statements' write. -/
namespace Go.Proofs.Ytcopoaaofjeklaa
open Go.RowKit
set_option linter.unusedVariables false
set_option linter.unusedSimpArgs false

/-- A row of numbers that may be written into. -/
def SI (R : Nat → Prop) (w : World) (v : Value) : Prop := v = .slice none 0 0 ∨ ∃ g n c cs, v = .slice (some ⟨g, 0, none⟩) n c ∧ n ≤ c ∧ c ≤ 9223372036854775807 ∧ R g ∧ Holds w g 3 cs ∧ c ≤ cs.length
/-- The arcs of a row: their rows of numbers may be written into. -/
def AE (R : Nat → Prop) (w : World) (cs : List Value) (n : Nat) : Prop := ∀ k, k < n → ∃ rs ws, cs[k * 6 + 3]? = some rs ∧ cs[k * 6 + 4]? = some ws ∧ SI R w rs ∧ SI R w ws
section
variable {R R' : Nat → Prop} {w w' : World}
theorem SI.up (hu : Keep R w w') {v : Value} (h : SI R w v) : SI R w' v := h.imp id fun ⟨g, n, c, cs, h1, h2, h3, h4, h5, h6⟩ => ⟨g, n, c, cs, h1, h2, h3, h4, h5.of_eq (hu g h4 h5.lt), h6⟩
theorem SI.mono (hl : Wide R R' w) {v : Value} (h : SI R w v) : SI R' w v := h.imp id fun ⟨g, n, c, cs, h1, h2, h3, h4, h5, h6⟩ => ⟨g, n, c, cs, h1, h2, h3, hl g h4 h5.lt, h5, h6⟩
theorem AE.up (hu : Keep R w w') {cs : List Value} {n : Nat} (h : AE R w cs n) : AE R w' cs n := fun k hk => by
  obtain ⟨rs, ws, h1, h2, h3, h4⟩ := h k hk
  exact ⟨rs, ws, h1, h2, h3.up hu, h4.up hu⟩
theorem AE.mono (hl : Wide R R' w) {cs : List Value} {n : Nat} (h : AE R w cs n) : AE R' w cs n := fun k hk => by
  obtain ⟨rs, ws, h1, h2, h3, h4⟩ := h k hk
  exact ⟨rs, ws, h1, h2, h3.mono hl, h4.mono hl⟩
end
def spoilA : List Value := [.int .i64 66, .int .i64 (-5), .int .i64 0, .slice none 0 0, .slice none 0 0, .int .u64 0]
def NoneP (e : Ending) : Prop := ∃ v, e = .returned v
end Go.Proofs.Ytcopoaaofjeklaa
end
section
/- The walk of the statements' spoil: every row of a graph is written into. -/
namespace Go.Proofs.Ytcopoaaofjeklaa
open Go.RowKit
set_option linter.unusedVariables false
set_option linter.unusedSimpArgs false

def spoilN : List Value := [.slice none 0 0, .int .u64 66, .bool false, .bool false, .bool false]
theorem spoilN_at {cs : List Value} {i j : Nat} (h : j * 5 + 5 ≤ cs.length) (hi : i * 5 + 5 ≤ cs.length) : (cs.take (j * 5) ++ (spoilN ++ cs.drop (j * 5 + 5)))[i * 5]? = if i = j then some (.slice none 0 0) else cs[i * 5]? := by
  by_cases e : i = j
  · subst e
    rw [if_pos rfl, List.getElem?_append_right (by simp; omega), List.getElem?_append_left (by simp [spoilN]; omega)]
    rw [show i * 5 - (cs.take (i * 5)).length = 0 by simp; omega]
    rfl
  · rw [if_neg e]
    by_cases hij : i < j
    · rw [List.getElem?_append_left (by simp; omega), List.getElem?_take_of_lt (by omega)]
    · rw [List.getElem?_append_right (by simp; omega), List.getElem?_append_right (by simp [spoilN]; omega), List.getElem?_drop]
      congr 1
      simp [spoilN]
      omega
end Go.Proofs.Ytcopoaaofjeklaa
end
section
/- What lies in memory while a graph is copied whole: rows that may be written into. -/
namespace Go.Proofs.Ytcopoaaofjeklaa
open Go.RowKit
set_option linter.unusedVariables false
set_option linter.unusedSimpArgs false

/-- What list hands back. -/
def LsI (lo : Nat) (w : World) (l : List Int) (v : Value) : Prop := ∃ g, v = .slice (some ⟨g, 0, none⟩) l.length (l.length + 1) ∧ lo ≤ g ∧ Holds w g 3 (l.map intV ++ [.int .i64 77])
theorem LsI.row {lo : Nat} {w : World} {l : List Int} {v : Value} (h : LsI lo w l v) (hl : l.length ≤ 2000000) : RowL (fun k => lo ≤ k) w 1 v l.length (l.map intV) := by
  obtain ⟨g, rfl, h2, h3⟩ := h
  exact ⟨_, _, rfl, by omega, by omega, by simp, (fun h => by cases h), fun hn => ⟨g, 0, _, _, rfl, h2, h3.r, fun j hj => by rw [Nat.zero_add, List.getElem?_append_left (by simp; omega)]⟩⟩
theorem LsI.si {lo : Nat} {w : World} {l : List Int} {v : Value} (h : LsI lo w l v) (hl : l.length ≤ 2000000) : SI (fun k => lo ≤ k) w v := by
  obtain ⟨g, rfl, h2, h3⟩ := h
  exact .inr ⟨g, _, _, _, rfl, by omega, by omega, h2, h3, by simp⟩
theorem LsI.below {lo : Nat} {w w' : World} {l : List Int} {v : Value} (h : LsI lo w l v) (hb : Below w.heap.size w w') : LsI lo w' l v := by
  obtain ⟨g, rfl, h2, h3⟩ := h
  exact ⟨g, rfl, h2, h3.belowAll hb⟩
/-- An arc's cells while they are copied. -/
def EntO (lo : Nat) (w : World) (a : PArc) (done : Prop) (e : List Value) : Prop := ∃ rs ws, e = arcC a rs ws ∧ (done → LsI lo w a.reads rs ∧ LsI lo w a.writes ws)
theorem EntO.below {lo : Nat} {w w' : World} {a : PArc} {d : Prop} {e : List Value} (h : EntO lo w a d e) (hb : Below w.heap.size w w') : EntO lo w' a d e := by
  obtain ⟨rs, ws, h1, h2⟩ := h
  exact ⟨rs, ws, h1, fun hd => ⟨(h2 hd).1.below hb, (h2 hd).2.below hb⟩⟩
end Go.Proofs.Ytcopoaaofjeklaa
end
section
/- The walk of the statements' own: a graph copied whole. -/
namespace Go.Proofs.Ytcopoaaofjeklaa
open Go.RowKit
set_option linter.unusedVariables false
set_option linter.unusedSimpArgs false

theorem LsF.imp {A : Type} {F G : (Nat → Prop) → World → A → List Value → Prop} {P Q : Nat → Prop} {w : World} (hF : ∀ a c, F P w a c → G Q w a c) : ∀ (l : List A) {f : List Value}, LsF F P w l f → LsF G Q w l f
  | [], f, h => h
  | a :: l, f, ⟨c, r, h1, h2, h3⟩ => ⟨c, r, h1, hF a c h2, LsF.imp hF l h3⟩
theorem ls_one {A : Type} {F : (Nat → Prop) → World → A → List Value → Prop} {n : Nat} (H : One F n) {P : Nat → Prop} {w : World} : ∀ {l : List A} {f : List Value}, LsF F P w l f → ∀ u ∈ f, u.oneCell' = true
  | [], f, h, u, hu => by
    obtain rfl := h
    cases hu
  | a :: l, f, ⟨c, r, h1, h2, h3⟩, u, hu => by
    rw [h1] at hu
    rcases List.mem_append.1 hu with hu | hu
    · exact List.all_eq_true.1 (H.one h2) u hu
    · exact ls_one H h3 u hu
end Go.Proofs.Ytcopoaaofjeklaa
end
section
/- The walk of the document's Number. -/
namespace Go.Proofs.Ytcopoaaofjeklaa
open Go.RowKit
set_option linter.unusedVariables false
set_option linter.unusedSimpArgs false

theorem run_one_byte {P : Program} (w : World) (t e dst : TypeId) (b : Nat) (n : Nat) (hn : n < 256) (ht : P.underlying t = some (.slice e)) (he : P.underlying e = some (.int .u8)) (hd : P.underlying dst = some .string)
    (h : w.cell? ⟨b, 0, none⟩ = some (.int .u8 (n : Int))) : (convert t dst (.slice (some ⟨b, 0, none⟩) 1 1)).run P w = .ok (.string ⟨#[UInt8.ofNat n]⟩) w := by
  have := run_convert_bytes_back (P := P) w t dst e ⟨b, 0, none⟩ 1 [UInt8.ofNat n] ht he hd (fun j hj => by
    have : j = 0 := by simpa using hj
    subst this
    have h2 : (⟨b, 0, none⟩ : Addr).add 0 = ⟨b, 0, none⟩ := rfl
    rw [h2, h]
    show _ = some (Value.int .u8 ((UInt8.ofNat n).toNat : Int))
    rw [u8_of hn])
  simpa using this
def NumPost (n : Nat) (w : World) (e : Ending) (w' : World) : Prop := e = .returned (.string ⟨(enc n).toArray⟩) ∧ Below w.heap.size w w'
end Go.Proofs.Ytcopoaaofjeklaa
end
section
/- Bytes as numbers: the document's reader (printed by mkrdec.py). -/
namespace Go.Proofs.Ytcopoaaofjeklaa
open Go.RowKit
set_option linter.unusedVariables false
set_option linter.unusedSimpArgs false

theorem sum_fit {m y k : Nat} (h : k ≤ 9) (hm : m < 128 ^ k) (hy : y ≤ 127 ∧ (k = 9 → y ≤ 1)) : m + y * 128 ^ k < 18446744073709551616 := by
  have h1 : k = 0 ∨ k = 1 ∨ k = 2 ∨ k = 3 ∨ k = 4 ∨ k = 5 ∨ k = 6 ∨ k = 7 ∨ k = 8 ∨ k = 9 := by omega
  rcases h1 with rfl | rfl | rfl | rfl | rfl | rfl | rfl | rfl | rfl | rfl <;> simp at hy hm ⊢ <;> omega
end Go.Proofs.Ytcopoaaofjeklaa
end
section
/- Bytes as numbers: the document's Uint, Numbers (printed by mkrnums.py). -/
namespace Go.Proofs.Ytcopoaaofjeklaa
open Go.RowKit
set_option linter.unusedVariables false
set_option linter.unusedSimpArgs false

/-- What stands in a number's answer. -/
def dnN : Dn → Nat | .ok n _ => n | _ => 0
def dnK : Dn → Nat | .ok _ k => k | _ => 0
def dnC : Dn → Nat | .ok _ _ => 0 | .cut => 10 | .form => 11
end Go.Proofs.Ytcopoaaofjeklaa
end
section
/- The walk of the document's Check (printed by mkrchk.py). -/
namespace Go.Proofs.Ytcopoaaofjeklaa
open Go.RowKit
set_option linter.unusedVariables false
set_option linter.unusedSimpArgs false

end Go.Proofs.Ytcopoaaofjeklaa
end
section
/- The walks of the reference's Move, copies, Bytes; the statements' pick. -/
namespace Go.Proofs.Ytcopoaaofjeklaa
open Go.RowKit
set_option linter.unusedVariables false
set_option linter.unusedSimpArgs false

set_option maxHeartbeats 4000000 in
set_option maxRecDepth 100000 in
theorem moveFn {P P' : Nat → Prop} {w : World} {k : Nat} {a : PArc} {s : ByteArray} {vr vw vr' vw' : Value} (h1 : RowL P w 1 vr a.reads.length (a.reads.map intV)) (h2 : RowL P w 1 vw a.writes.length (a.writes.map intV)) (h3 : RowL P' w 1 vr' a.reads.length (a.reads.map intV)) (h4 : RowL P' w 1 vw' a.writes.length (a.writes.map intV)) (hn : a.reads.length ≤ 2000000 ∧ a.writes.length ≤ 2000000) :
    Calls Try.prog 11 #[.agg (mvC k a s vr vw).toArray, .agg (mvC k a s vr' vw').toArray] w (Yes w) := by
  obtain ⟨a1, c1, rfl, _, _, _⟩ := h1.form
  obtain ⟨a2, c2, rfl, _, _, _⟩ := h2.form
  obtain ⟨a3, c3, rfl, _, _, _⟩ := h3.form
  obtain ⟨a4, c4, rfl, _, _, _⟩ := h4.form
  obtain ⟨w1, hw1⟩ : ∃ W, W = (w.alloc (.cells #[.int .i64 a.proc, .int .i64 (k : Int), .int .i64 (-1), .int .i64 (-1), .string s, .int .i64 a.bad, .slice a1 a.reads.length c1, .slice a2 a.writes.length c2, .int .u64 (a.turns : Int)] 44)).alloc (.cells #[.int .i64 a.proc, .int .i64 (k : Int), .int .i64 (-1), .int .i64 (-1), .string s, .int .i64 a.bad, .slice a3 a.reads.length c3, .slice a4 a.writes.length c4, .int .u64 (a.turns : Int)] 44) := ⟨_, rfl⟩
  have hb1 : Below w.heap.size w w1 := by rw [hw1]; exact ((Below.refl _ _).alloc (Nat.le_refl _) _).alloc (by simp) _
  have d1 : Holds w1 w.heap.size 44 (mvC k a s (.slice a1 a.reads.length c1) (.slice a2 a.writes.length c2)) := by
    rw [hw1]
    exact (Holds.new w 44 (mvC k a s (.slice a1 a.reads.length c1) (.slice a2 a.writes.length c2)).toArray).alloc _
  have d2 : Holds w1 (w.heap.size + 1) 44 (mvC k a s (.slice a3 a.reads.length c3) (.slice a4 a.writes.length c4)) := by
    have h := Holds.new (w.alloc (.cells (mvC k a s (.slice a1 a.reads.length c1) (.slice a2 a.writes.length c2)).toArray 44)) 44 (mvC k a s (.slice a3 a.reads.length c3) (.slice a4 a.writes.length c4)).toArray
    simp only [World.size_alloc] at h
    rw [hw1]
    exact h
  have HB1 := Lib.hid hb1
  have D1 := Lib.hid d1
  have D2 := Lib.hid d2
  have H1 := Lib.hid (h1.up (Keep.below hb1))
  have H2 := Lib.hid (h2.up (Keep.below hb1))
  have H3 := Lib.hid (h3.up (Keep.below hb1))
  have H4 := Lib.hid (h4.up (Keep.below hb1))
  have e6 := d1.cell 6
  have f6 := d2.cell 6
  simp only [mvC, List.getElem?_cons_zero, List.getElem?_cons_succ] at e6 f6 ⊢
  rw [hw1] at e6 f6
  clear hb1 d1 d2 h1 h2 h3 h4
  go_enter Try.func11, Try.ntmps11
  go_wp2_with (fail)
  rw [← hw1]
  clear hw1 e6 f6
  refine (sameFn H1.out H3.out hn.1).mono ?_
  rintro e w2 ⟨rfl, hb2⟩
  have e7 := (D1.out.belowAll hb2).cell 7
  have f7 := (D2.out.belowAll hb2).cell 7
  simp only [mvC, List.getElem?_cons_zero, List.getElem?_cons_succ] at e7 f7
  have H22 := Lib.hid (H2.out.up (Keep.below hb2))
  have H42 := Lib.hid (H4.out.up (Keep.below hb2))
  have HB2 : Hid (Below w.heap.size w w2) := HB1.out.trans (hb2.mono HB1.out.size)
  have D12 := Lib.hid (D1.out.belowAll hb2)
  have D22 := Lib.hid (D2.out.belowAll hb2)
  clear hb2 D1 D2 H2 H4
  go_wp2_with (fail)
  refine (sameFn H22.out H42.out hn.2).mono ?_
  rintro e w3 ⟨rfl, hb3⟩
  have E := D12.out.belowAll hb3
  have G := D22.out.belowAll hb3
  have e0 := E.cell 0
  have e1 := E.cell 1
  have e2 := E.cell 2
  have e3 := E.cell 3
  have e4 := E.cell 4
  have e5 := E.cell 5
  have e8 := E.cell 8
  have g0 := G.cell 0
  have g1 := G.cell 1
  have g2 := G.cell 2
  have g3 := G.cell 3
  have g4 := G.cell 4
  have g5 := G.cell 5
  have g8 := G.cell 8
  simp only [mvC, List.getElem?_cons_zero, List.getElem?_cons_succ] at e0 e1 e2 e3 e4 e5 e8 g0 g1 g2 g3 g4 g5 g8
  have HB3 : Hid (Below w.heap.size w w3) := HB2.out.trans (hb3.mono HB2.out.size)
  clear hb3 E G e7 f7
  go_wp2
  go_ret
  exact ⟨rfl, HB3.out⟩
def CopiesPost (l : List Int) (w : World) (e : Ending) (w' : World) : Prop := Below w.heap.size w w' ∧ ∃ v, e = .returned v ∧ RowX w.heap.size w' v l
theorem key_add (m : Nat) : (⟨#[]⟩ : ByteArray) ++ ⟨(enc m).toArray⟩ = keyS m := by
  apply ByteArray.ext
  simp [keyS, ByteArray.append_eq]
end Go.Proofs.Ytcopoaaofjeklaa
end
section
/- The walks of the reference's Moves and Look (printed by mkrms.py). -/
namespace Go.Proofs.Ytcopoaaofjeklaa
open Go.RowKit
set_option linter.unusedVariables false
set_option linter.unusedSimpArgs false

def MovF (P : Nat → Prop) (w : World) (a : PArc × Nat) (c : List Value) : Prop := ∃ vr vw, c = mvC a.2 a.1 (toS a.1) vr vw ∧ RowL P w 1 vr a.1.reads.length (a.1.reads.map intV) ∧ RowL P w 1 vw a.1.writes.length (a.1.writes.map intV)
theorem MovF.mono {P Q : Nat → Prop} {w : World} (hl : Wide P Q w) {a : PArc × Nat} {c : List Value} (h : MovF P w a c) : MovF Q w a c := by
  obtain ⟨vr, vw, h1, h2, h3⟩ := h
  exact ⟨vr, vw, h1, h2.mono hl, h3.mono hl⟩
theorem oneMov : One MovF 9 := ⟨fun ⟨vr, vw, h, _⟩ => by rw [h]; rfl, fun ⟨vr, vw, h, h2, h3⟩ => by
  rw [h]; simp [mvC, h2.cell1, h3.cell1]; simp [Value.oneCell'], fun hu ⟨vr, vw, h1, h2, h3⟩ => ⟨vr, vw, h1, h2.up hu, h3.up hu⟩⟩
/-- The moves of a row of arcs, as a list in memory. -/
def MovesV (P : Nat → Prop) (w : World) (v : Value) (l : List PArc) : Prop := ∃ f, RowL P w 9 v l.length f ∧ LsF MovF P w l.zipIdx f
theorem zip_at {l : List PArc} {i : Nat} (h : i < l.length) : l.zipIdx[i]'(by simpa using h) = (l[i], i) := by simp
end Go.Proofs.Ytcopoaaofjeklaa
end
section
/- The walk of the reference's Look (printed by mkrlk.py). -/
namespace Go.Proofs.Ytcopoaaofjeklaa
open Go.RowKit
set_option linter.unusedVariables false
set_option linter.unusedSimpArgs false

/-- The reference reads a state's number as the program does. -/
theorem ref_none {N : PNet} {s : Bs} (h : nums 1099511627776 1 s = none) : nodeOf N s = none := by
  unfold nodeOf
  have : nums 20000 1 s = none := by
    rw [nums] at h ⊢
    cases hd : dec s with
    | ok n k =>
      rw [hd] at h
      simp only at h ⊢
      split at h
      · rw [if_pos (by omega)]
      · rw [nums] at h; cases h
    | _ => rfl
  rw [this]
theorem ref_some {N : PNet} {s : Bs} {ns : List Nat} {l : Bs} (hN : N.length ≤ 20000) (h : nums 1099511627776 1 s = some (ns, l)) : ∃ k, ns = [k] ∧ k ≤ 1099511627776 ∧ nodeOf N s = if l = [] then N[k]? else none := by
  rw [nums] at h
  cases hd : dec s with
  | ok n k =>
    rw [hd] at h
    simp only at h
    split at h
    · cases h
    · rename_i hn
      rw [nums] at h
      simp only [Option.some.injEq, Prod.mk.injEq] at h
      obtain ⟨rfl, rfl⟩ := h
      refine ⟨n, rfl, by omega, ?_⟩
      unfold nodeOf
      rw [nums, hd]
      simp only
      by_cases hl : s.drop k = []
      · rw [if_pos hl, hl]
        by_cases h2 : 20000 < n
        · rw [if_pos h2, List.getElem?_eq_none (by omega)]
        · rw [if_neg h2, nums]
      · rw [if_neg hl]
        obtain ⟨a, r, hr⟩ := List.exists_cons_of_ne_nil hl
        rw [hr]
        by_cases h2 : 20000 < n
        · rw [if_pos h2]
        · rw [if_neg h2, nums]
  | _ => rw [hd] at h; cases h
end Go.Proofs.Ytcopoaaofjeklaa
end
section
/- The walk of the reference's Next (printed by mkrnx.py). -/
namespace Go.Proofs.Ytcopoaaofjeklaa
open Go.RowKit
set_option linter.unusedVariables false
set_option linter.unusedSimpArgs false

structure NxO (S : Nat) (w3 : World) (l : List (PArc × Nat)) (vo : Value) (wr : World) : Prop where
  below : Below S w3 wr
  ge : S ≤ w3.heap.size
  row : ∃ fo, wr.ownsRow S 44 9 vo l.length fo ∧ LsF MovF (fun q => S ≤ q ∧ vo.ownBlock ≠ some q) wr l fo
theorem NxO.app {S : Nat} {w3 wr W8 W9 : World} {l : List (PArc × Nat)} {y : PArc × Nat} {vo vo' : Value} {fo c : List Value} {o : Obj} (h : NxO S w3 l vo wr) (hr : wr.ownsRow S 44 9 vo l.length fo) (hfo : LsF MovF (fun q => S ≤ q ∧ vo.ownBlock ≠ some q) wr l fo) (h8 : Below wr.heap.size wr W8) (hy : MovF (fun q => wr.heap.size ≤ q) W8 y c)
    (hown : W9.ownsRow S 44 9 vo' (l.length + 1) (fo ++ c)) (hgr : (W8.alloc o).grownBy W9 vo.ownBlock) (hblk : vo'.ownBlock = vo.ownBlock ∨ vo'.ownBlock = some (W8.alloc o).heap.size) : NxO S w3 (l ++ [y]) vo' W9 := by
  have hg := h.ge
  have hbs := h.below.size
  have hvl := owns_lt hr
  have hvg := owns_ge hr
  have hs8 := h8.size
  have hs9 : W8.heap.size ≤ (W8.alloc o).heap.size := by simp
  have hf9 : Fr (fun q => vo.ownBlock = some q) W8 W9 := ((Fr.refl _ W8).alloc o).grown hgr fun q hq _ => hq
  have hv : ∀ k, k < W8.heap.size → vo.ownBlock ≠ some k → vo'.ownBlock ≠ some k := fun k hk hn he => by
    rcases hblk with hb | hb
    · rw [hb] at he; exact hn he
    · rw [hb] at he; injection he with he; omega
  refine ⟨(h.below.trans (h8.mono (by omega))).trans (hf9.to_below (by omega) fun k hk hor => by have := hvg k hor; omega), h.ge, fo ++ c, by rw [List.length_append]; exact hown, LsF.append ?_ (LsF.sing ?_)⟩
  · have a0 := LsF.mono (fun _ _ => MovF.mono (Wide.in_ (w := wr))) _ hfo
    have a1 := LsF.up (w' := W8) (fun _ _ => oneMov.up fun k hk hs => h8.block k hs) _ a0
    have a2 := LsF.up (w' := W9) (fun _ _ => oneMov.up fun k hk hs => hf9.block k hs hk.1.2) _ a1
    exact LsF.mono (fun _ _ => MovF.mono fun k hk _ => ⟨hk.1.1, hv k (by omega) hk.1.2⟩) _ a2
  · have hne : ∀ k, wr.heap.size ≤ k → vo.ownBlock ≠ some k := fun k hk he => by have := hvl k he; omega
    have a0 := MovF.mono (Wide.in_ (w := W8)) hy
    have a2 := oneMov.up (w' := W9) (fun k hk hs => hf9.block k hs (hne k hk.1)) a0
    exact MovF.mono (fun k hk _ => ⟨by omega, hv k hk.2 (hne k hk.1)⟩) a2
theorem NxO.moves {S base : Nat} {w3 wr : World} {l : List PArc} {vo : Value} (h : NxO S w3 l.zipIdx vo wr) (hb : base ≤ S) : MovesV (From base) wr vo l := by
  obtain ⟨fo, h1, h2⟩ := h.row
  rw [List.length_zipIdx] at h1
  exact ⟨fo, RowL.of_owns h1 fun k hk => Nat.le_trans hb hk, LsF.mono (fun _ _ => MovF.mono fun k hk _ => Nat.le_trans hb hk.1) _ h2⟩
def NextPost (N : PNet) (s : Bs) (w : World) (e : Ending) (w' : World) : Prop := Below w.heap.size w w' ∧ ∃ v, e = .returned v ∧ MovesV (From w.heap.size) w' v ((nodeOf N s).getD zeroN).arcs
theorem info_move : (Try.prog.info? 44).map (fun i => (i.zero.map fun z => z.cells.size, i.size, i.bytes)) = some (some 9, 9, 112) := by kernel_rfl
end Go.Proofs.Ytcopoaaofjeklaa
end
section
/- The walk of the statements' all: the moves of a state, gathered by a range over the iterator, left early. -/
namespace Go.Proofs.Ytcopoaaofjeklaa
open Go.RowKit Go.Maps
set_option linter.unusedVariables false
set_option linter.unusedSimpArgs false
attribute [local go_sem] Oper.semAt_some run_makeMap

/-- A move whose rows may be written into. -/
def MovG (P : Nat → Prop) (w : World) (a : PArc × Nat) (c : List Value) : Prop := ∃ vr vw, c = mvC a.2 a.1 (toS a.1) vr vw ∧ (RowL P w 1 vr a.1.reads.length (a.1.reads.map intV) ∧ SI P w vr) ∧ RowL P w 1 vw a.1.writes.length (a.1.writes.map intV) ∧ SI P w vw
theorem MovG.mono {P Q : Nat → Prop} {w : World} (hl : Wide P Q w) {a : PArc × Nat} {c : List Value} (h : MovG P w a c) : MovG Q w a c := by
  obtain ⟨vr, vw, h1, ⟨h2, h2'⟩, h3, h3'⟩ := h
  exact ⟨vr, vw, h1, ⟨h2.mono hl, h2'.mono hl⟩, h3.mono hl, h3'.mono hl⟩
theorem MovG.movF {P : Nat → Prop} {w : World} {a : PArc × Nat} {c : List Value} (h : MovG P w a c) : MovF P w a c := by
  obtain ⟨vr, vw, h1, ⟨h2, _⟩, h3, _⟩ := h
  exact ⟨vr, vw, h1, h2, h3⟩
theorem oneMovG : One MovG 9 := ⟨fun h => oneMov.len h.movF, fun h => oneMov.one h.movF, fun hu ⟨vr, vw, h1, ⟨h2, h2'⟩, h3, h3'⟩ => ⟨vr, vw, h1, ⟨h2.up hu, h2'.up hu⟩, h3.up hu, h3'.up hu⟩⟩
theorem SI.kept {R : Nat → Prop} {w w' : World} {v : Value} {row : Option Nat} (h : SI R w v) (hg : w.grownBy w' row) (hr : ∀ r, row = some r → ∃ o : Obj, w.heap[r]? = some o ∧ o.isCells = false) : SI R w' v :=
  h.imp id fun ⟨g, n, c, cs, h1, h2, h3, h4, h5, h6⟩ => ⟨g, n, c, cs, h1, h2, h3, h4, h5.kept_row hg hr, h6⟩
theorem MovG.kept {P : Nat → Prop} {w w' : World} {a : PArc × Nat} {c : List Value} {row : Option Nat} (hg : w.grownBy w' row) (hr : ∀ r, row = some r → ∃ o : Obj, w.heap[r]? = some o ∧ o.isCells = false) (h : MovG P w a c) : MovG P w' a c := by
  obtain ⟨vr, vw, h1, ⟨h2, h2'⟩, h3, h3'⟩ := h
  exact ⟨vr, vw, h1, ⟨h2.kept hg hr, h2'.kept hg hr⟩, h3.kept hg hr, h3'.kept hg hr⟩
theorem RowX.si {lo : Nat} {w : World} {v : Value} {l : List Int} (h : RowX lo w v l) : SI (From lo) w v := by
  rcases h.1 with rfl | h1
  · exact .inl rfl
  · rcases h1.2 with ⟨h0, _⟩ | ⟨g, cap, cur, rfl, hb, hg, hnc, hcm, hcs, ht⟩
    · exact .inl h0
    · exact .inr ⟨g, _, cap, cur.toList, rfl, hnc, by unfold maxLen at hcm; omega, hb, by unfold Holds; simpa using hg, by rw [Array.length_toList, hcs]; omega⟩
structure AllO (base lo b5 b7 : Nat) (w0 : World) (most : Nat) (l : List (PArc × Nat)) (vo : Value) (W : World) : Prop where
  below : Below base w0 W
  most_ : Holds W b5 3 [.int .i64 (most : Int)]
  box : Holds W b7 38 [vo]
  row : ∃ fo, W.ownsRow lo 44 9 vo l.length fo ∧ LsF MovG (fun q => lo ≤ q ∧ vo.ownBlock ≠ some q) W l fo
  lts : base ≤ b5 ∧ b5 < lo ∧ base ≤ b7 ∧ b7 < lo ∧ lo ≤ W.heap.size ∧ base ≤ w0.heap.size
section
variable {base lo b5 b7 : Nat} {w0 W W' : World} {most : Nat} {l : List (PArc × Nat)} {vo : Value}
theorem AllO.fresh (h : AllO base lo b5 b7 w0 most l vo W) (hb : Below W.heap.size W W') : AllO base lo b5 b7 w0 most l vo W' := by
  obtain ⟨fo, h1, h2⟩ := h.row
  have hl := h.lts
  exact ⟨h.below.trans (hb.mono (by omega)), h.most_.belowAll hb, h.box.belowAll hb, ⟨fo, owns_below h1 hb, LsF.up (fun _ _ => oneMovG.up (Keep.below hb)) _ h2⟩, by have := hb.size; omega⟩
theorem AllO.kept (h : AllO base lo b5 b7 w0 most l vo W) {row : Option Nat} (hg : W.grownBy W' row) (hr : ∀ r, row = some r → lo ≤ r ∧ ∃ o : Obj, W.heap[r]? = some o ∧ o.isCells = false) : AllO base lo b5 b7 w0 most l vo W' := by
  obtain ⟨fo, h1, h2⟩ := h.row
  have hl := h.lts
  have hr2 : ∀ r, row = some r → ∃ o : Obj, W.heap[r]? = some o ∧ o.isCells = false := fun r e => (hr r e).2
  exact ⟨h.below.grown hg (by have := h.below.size; omega) fun k hk => by have := (hr k hk).1; omega, h.most_.kept_row hg hr2, h.box.kept_row hg hr2, ⟨fo, owns_kept h1 hg hr2, LsF.up (fun _ _ => MovG.kept hg hr2) _ h2⟩, by have := hg.size; omega⟩
theorem AllO.app {y : PArc × Nat} {vo' : Value} {fo c : List Value} {W4 W5 : World} {o : Obj} (h : AllO base lo b5 b7 w0 most l vo W) (hr : W.ownsRow lo 44 9 vo l.length fo) (hfo : LsF MovG (fun q => lo ≤ q ∧ vo.ownBlock ≠ some q) W l fo) (hy : MovG (fun q => lo ≤ q ∧ vo.ownBlock ≠ some q) W y c)
    (hown : W4.ownsRow lo 44 9 vo' (l.length + 1) (fo ++ c)) (hgr : (W.alloc o).grownBy W4 vo.ownBlock) (hblk : vo'.ownBlock = vo.ownBlock ∨ vo'.ownBlock = some (W.alloc o).heap.size) (hW : W5 = setR W4 b7 0 [vo']) : AllO base lo b5 b7 w0 most (l ++ [y]) vo' W5 ∧ Turns lo W W5 := by
  have hl := h.lts
  have hvl := owns_lt hr
  have hvg := owns_ge hr
  have hs9 : W.heap.size ≤ (W.alloc o).heap.size := by simp
  have hf4 : Fr (fun q => vo.ownBlock = some q) W W4 := ((Fr.refl _ W).alloc o).grown hgr fun q hq _ => hq
  have hf5 : Fr (fun q => q = b7) W4 W5 := by rw [hW]; exact Fr.setRX _ _ 0 _
  have hf : Fr (fun q => q = b7 ∨ vo.ownBlock = some q) W W5 := (hf4.mono fun _ _ h => .inr h).trans hf5 fun q _ hq => .inl hq
  have hb4 : Holds W4 b7 38 [vo] := hf4.holds h.box (owns_ne_holds hr h.box (by decide))
  have hv : ∀ k, k < W.heap.size → vo.ownBlock ≠ some k → vo'.ownBlock ≠ some k := fun k hk hn he => by
    rcases hblk with hb | hb
    · rw [hb] at he; exact hn he
    · rw [hb] at he; injection he with he; omega
  refine ⟨⟨h.below.trans (hf.to_below (by omega) fun k hk hor => ?_), hf.holds h.most_ fun hor => ?_, hb4.stored hW (Nat.le_refl _), ⟨fo ++ c, by rw [List.length_append]; exact hf5.owns hown fun g hgg he => owns_ne_holds hown hb4 (by decide) (by rw [← he]; exact hgg), ?_⟩, by have := hf.size; omega⟩, Turns.of hf fun k hk => ?_⟩
  · rcases hor with rfl | hor
    · omega
    · have := hvg k hor; omega
  · rcases hor with hor | hor
    · exact h.most_.ne_of_type h.box (by decide) hor
    · exact owns_ne_holds hr h.most_ (by decide) hor
  · have a0 := LsF.mono (fun _ _ => MovG.mono (Wide.in_ (w := W))) _ (LsF.append hfo (LsF.sing hy))
    have a2 := LsF.up (w' := W5) (fun _ _ => oneMovG.up fun k hk hs => hf.block k hs fun hor => hor.elim (fun e => by have := hk.1.1; omega) hk.1.2) _ a0
    exact LsF.mono (fun _ _ => MovG.mono fun k hk _ => ⟨hk.1.1, hv k hk.2 hk.1.2⟩) _ a2
  · rcases hk with rfl | hk
    · exact .inl ⟨_, _, h.box⟩
    · obtain ⟨cs, hh⟩ := owns_holds hr hk
      exact .inl ⟨_, _, hh⟩
end
/-- What holds behind the j-th round; what a body begins with. -/
def RngL (base lo b5 b7 : Nat) (w0 : World) (most : Nat) (l : List PArc) (j : Nat) (W : World) : Prop := ∃ vo, AllO base lo b5 b7 w0 most (l.zipIdx.take j) vo W ∧ j ≤ l.length ∧ j ≤ most
def RngB (base lo b5 b7 : Nat) (w0 : World) (most : Nat) (l : List PArc) (j b8 : Nat) (W : World) : Prop := ∃ (hj : j < l.length) (vo vr vw : Value), AllO base lo b5 b7 w0 most (l.zipIdx.take j) vo W ∧ j ≤ most ∧ Holds W b8 44 (mvC j l[j] (toS l[j]) vr vw) ∧ MovG (fun q => lo ≤ q ∧ vo.ownBlock ≠ some q) W (l[j], j) (mvC j l[j] (toS l[j]) vr vw)
theorem RngL.kept {base lo b5 b7 : Nat} {w0 W W' : World} {most j : Nat} {l : List PArc} {row : Option Nat} (h : RngL base lo b5 b7 w0 most l j W) (hg : W.grownBy W' row) (hr : ∀ r, row = some r → lo ≤ r ∧ ∃ o : Obj, W.heap[r]? = some o ∧ o.isCells = false) : RngL base lo b5 b7 w0 most l j W' := by
  obtain ⟨vo, h1, h2⟩ := h
  exact ⟨vo, h1.kept hg hr, h2⟩
theorem RngB.kept {base lo b5 b7 b8 : Nat} {w0 W W' : World} {most j : Nat} {l : List PArc} {row : Option Nat} (h : RngB base lo b5 b7 w0 most l j b8 W) (hg : W.grownBy W' row) (hr : ∀ r, row = some r → lo ≤ r ∧ ∃ o : Obj, W.heap[r]? = some o ∧ o.isCells = false) : RngB base lo b5 b7 w0 most l j b8 W' := by
  obtain ⟨hj, vo, vr, vw, h1, h2, h3, h4⟩ := h
  exact ⟨hj, vo, vr, vw, h1.kept hg hr, h2, h3.kept_row hg fun r e => (hr r e).2, MovG.kept hg (fun r e => (hr r e).2) h4⟩
theorem RngB.start {base lo b5 b7 b8 : Nat} {w0 W0 W W' : World} {most j : Nat} {l : List PArc} {vr vw : Value} (h : RngL base lo b5 b7 w0 most l j W0) (hb : Below W0.heap.size W0 W) (hj : j < l.length) (hr : RowX W0.heap.size W vr l[j].reads) (hw : RowX W0.heap.size W vw l[j].writes) (hb2 : Below W.heap.size W W') (h8 : Holds W' b8 44 (mvC j l[j] (toS l[j]) vr vw)) : RngB base lo b5 b7 w0 most l j b8 W' := by
  obtain ⟨vo, h1, h2, h3⟩ := h
  obtain ⟨fo, k1, _⟩ := h1.row
  have hlts := h1.lts
  have hwide : Wide (From W0.heap.size) (fun q => lo ≤ q ∧ vo.ownBlock ≠ some q) W' := fun k hk _ => ⟨by have : W0.heap.size ≤ k := hk; omega, fun e => by have := owns_lt k1 k e; have : W0.heap.size ≤ k := hk; omega⟩
  have hr2 := hr.below hb2
  have hw2 := hw.below hb2
  exact ⟨hj, vo, vr, vw, h1.fresh (hb.trans (hb2.mono hb.size)), h3, h8, ⟨vr, vw, rfl, ⟨hr2.2.mono hwide, hr2.si.mono hwide⟩, hw2.2.mono hwide, hw2.si.mono hwide⟩⟩
end Go.Proofs.Ytcopoaaofjeklaa
end
section
/- The walk of the statements' all. -/
namespace Go.Proofs.Ytcopoaaofjeklaa
open Go.RowKit Go.Maps
set_option linter.unusedVariables false
set_option linter.unusedSimpArgs false
attribute [local go_sem] Oper.semAt_some run_makeMap

def AllPost (l : List PArc) (most : Nat) (w : World) (e : Ending) (w' : World) : Prop := Below w.heap.size w w' ∧ ∃ vo k fo lo, e = .returned vo ∧ (k = l.length ∨ k = most) ∧ k ≤ l.length ∧ k ≤ most ∧ w.heap.size ≤ lo ∧ w'.ownsRow lo 44 9 vo k fo ∧ LsF MovG (fun q => lo ≤ q ∧ vo.ownBlock ≠ some q) w' (l.zipIdx.take k) fo
theorem sz_Moves : (Try.prog.info? 38).map (·.size) = some 1 := by kernel_rfl
theorem SI.keptF {F R : Nat → Prop} {w w' : World} {v : Value} (h : SI R w v) (hf : Fr F w w') (hF : ∀ k, F k → ∃ o : Obj, w.heap[k]? = some o ∧ o.isCells = false) : SI R w' v :=
  h.imp id fun ⟨g, n, c, cs, h1, h2, h3, h4, h5, h6⟩ => ⟨g, n, c, cs, h1, h2, h3, h4, h5.keptF hf hF, h6⟩
end Go.Proofs.Ytcopoaaofjeklaa
end
section
/- The walk of the statements' all at any system (printed by mkgal.py out of XAll and XAlw). -/
namespace Go.Proofs.Ytcopoaaofjeklaa.G
open Go.RowKit Go.Maps
set_option linter.unusedVariables false
set_option linter.unusedSimpArgs false
attribute [local go_sem] Oper.semAt_some run_makeMap

/-- A move whose rows may be written into. -/
def MovG (P : Nat → Prop) (w : World) (a : PMove) (c : List Value) : Prop := ∃ vr vw, c = mvC a vr vw ∧ (RowL P w 1 vr a.reads.length (a.reads.map intV) ∧ SI P w vr) ∧ RowL P w 1 vw a.writes.length (a.writes.map intV) ∧ SI P w vw
theorem MovG.mono {P Q : Nat → Prop} {w : World} (hl : Wide P Q w) {a : PMove} {c : List Value} (h : MovG P w a c) : MovG Q w a c := by
  obtain ⟨vr, vw, h1, ⟨h2, h2'⟩, h3, h3'⟩ := h
  exact ⟨vr, vw, h1, ⟨h2.mono hl, h2'.mono hl⟩, h3.mono hl, h3'.mono hl⟩
theorem MovG.kept {P : Nat → Prop} {w w' : World} {a : PMove} {c : List Value} {row : Option Nat} (hg : w.grownBy w' row) (hr : ∀ r, row = some r → ∃ o : Obj, w.heap[r]? = some o ∧ o.isCells = false) (h : MovG P w a c) : MovG P w' a c := by
  obtain ⟨vr, vw, h1, ⟨h2, h2'⟩, h3, h3'⟩ := h
  exact ⟨vr, vw, h1, ⟨h2.kept hg hr, h2'.kept hg hr⟩, h3.kept hg hr, h3'.kept hg hr⟩
theorem oneMovG : One MovG 9 := ⟨fun ⟨vr, vw, h, _⟩ => by rw [h]; rfl, fun ⟨vr, vw, h, ⟨h2, _⟩, h3, _⟩ => by
  have q1 := h2.cell1
  have q2 := h3.cell1
  rw [h]
  simp [mvC, q1, q2]
  simp [Value.oneCell'], fun hu ⟨vr, vw, h1, ⟨h2, h2'⟩, h3, h3'⟩ => ⟨vr, vw, h1, ⟨h2.up hu, h2'.up hu⟩, h3.up hu, h3'.up hu⟩⟩
structure AllO (base lo b5 b7 : Nat) (w0 : World) (most : Nat) (l : List PMove) (vo : Value) (W : World) : Prop where
  below : Below base w0 W
  most_ : Holds W b5 3 [.int .i64 (most : Int)]
  box : Holds W b7 38 [vo]
  row : ∃ fo, W.ownsRow lo 44 9 vo l.length fo ∧ LsF MovG (fun q => lo ≤ q ∧ vo.ownBlock ≠ some q) W l fo
  lts : base ≤ b5 ∧ b5 < lo ∧ base ≤ b7 ∧ b7 < lo ∧ lo ≤ W.heap.size ∧ base ≤ w0.heap.size
section
variable {base lo b5 b7 : Nat} {w0 W W' : World} {most : Nat} {l : List PMove} {vo : Value}
theorem AllO.fresh (h : AllO base lo b5 b7 w0 most l vo W) (hb : Below W.heap.size W W') : AllO base lo b5 b7 w0 most l vo W' := by
  obtain ⟨fo, h1, h2⟩ := h.row
  have hl := h.lts
  exact ⟨h.below.trans (hb.mono (by omega)), h.most_.belowAll hb, h.box.belowAll hb, ⟨fo, owns_below h1 hb, LsF.up (fun _ _ => oneMovG.up (Keep.below hb)) _ h2⟩, by have := hb.size; omega⟩
theorem AllO.kept (h : AllO base lo b5 b7 w0 most l vo W) {row : Option Nat} (hg : W.grownBy W' row) (hr : ∀ r, row = some r → lo ≤ r ∧ ∃ o : Obj, W.heap[r]? = some o ∧ o.isCells = false) : AllO base lo b5 b7 w0 most l vo W' := by
  obtain ⟨fo, h1, h2⟩ := h.row
  have hl := h.lts
  have hr2 : ∀ r, row = some r → ∃ o : Obj, W.heap[r]? = some o ∧ o.isCells = false := fun r e => (hr r e).2
  exact ⟨h.below.grown hg (by have := h.below.size; omega) fun k hk => by have := (hr k hk).1; omega, h.most_.kept_row hg hr2, h.box.kept_row hg hr2, ⟨fo, owns_kept h1 hg hr2, LsF.up (fun _ _ => MovG.kept hg hr2) _ h2⟩, by have := hg.size; omega⟩
theorem AllO.app {y : PMove} {vo' : Value} {fo c : List Value} {W4 W5 : World} {o : Obj} (h : AllO base lo b5 b7 w0 most l vo W) (hr : W.ownsRow lo 44 9 vo l.length fo) (hfo : LsF MovG (fun q => lo ≤ q ∧ vo.ownBlock ≠ some q) W l fo) (hy : MovG (fun q => lo ≤ q ∧ vo.ownBlock ≠ some q) W y c)
    (hown : W4.ownsRow lo 44 9 vo' (l.length + 1) (fo ++ c)) (hgr : (W.alloc o).grownBy W4 vo.ownBlock) (hblk : vo'.ownBlock = vo.ownBlock ∨ vo'.ownBlock = some (W.alloc o).heap.size) (hW : W5 = setR W4 b7 0 [vo']) : AllO base lo b5 b7 w0 most (l ++ [y]) vo' W5 ∧ Turns lo W W5 := by
  have hl := h.lts
  have hvl := owns_lt hr
  have hvg := owns_ge hr
  have hs9 : W.heap.size ≤ (W.alloc o).heap.size := by simp
  have hf4 : Fr (fun q => vo.ownBlock = some q) W W4 := ((Fr.refl _ W).alloc o).grown hgr fun q hq _ => hq
  have hf5 : Fr (fun q => q = b7) W4 W5 := by rw [hW]; exact Fr.setRX _ _ 0 _
  have hf : Fr (fun q => q = b7 ∨ vo.ownBlock = some q) W W5 := (hf4.mono fun _ _ h => .inr h).trans hf5 fun q _ hq => .inl hq
  have hb4 : Holds W4 b7 38 [vo] := hf4.holds h.box (owns_ne_holds hr h.box (by decide))
  have hv : ∀ k, k < W.heap.size → vo.ownBlock ≠ some k → vo'.ownBlock ≠ some k := fun k hk hn he => by
    rcases hblk with hb | hb
    · rw [hb] at he; exact hn he
    · rw [hb] at he; injection he with he; omega
  refine ⟨⟨h.below.trans (hf.to_below (by omega) fun k hk hor => ?_), hf.holds h.most_ fun hor => ?_, hb4.stored hW (Nat.le_refl _), ⟨fo ++ c, by rw [List.length_append]; exact hf5.owns hown fun g hgg he => owns_ne_holds hown hb4 (by decide) (by rw [← he]; exact hgg), ?_⟩, by have := hf.size; omega⟩, Turns.of hf fun k hk => ?_⟩
  · rcases hor with rfl | hor
    · omega
    · have := hvg k hor; omega
  · rcases hor with hor | hor
    · exact h.most_.ne_of_type h.box (by decide) hor
    · exact owns_ne_holds hr h.most_ (by decide) hor
  · have a0 := LsF.mono (fun _ _ => MovG.mono (Wide.in_ (w := W))) _ (LsF.append hfo (LsF.sing hy))
    have a2 := LsF.up (w' := W5) (fun _ _ => oneMovG.up fun k hk hs => hf.block k hs fun hor => hor.elim (fun e => by have := hk.1.1; omega) hk.1.2) _ a0
    exact LsF.mono (fun _ _ => MovG.mono fun k hk _ => ⟨hk.1.1, hv k hk.2 hk.1.2⟩) _ a2
  · rcases hk with rfl | hk
    · exact .inl ⟨_, _, h.box, safe_not (by decide) (by decide) (.inl (by decide))⟩
    · obtain ⟨cs, hh⟩ := owns_holds hr hk
      exact .inl ⟨_, _, hh, safe_not (by decide) (by decide) (.inl (by decide))⟩
end
/-- What holds behind the j-th round; what a body begins with. -/
def RngL (base lo b5 b7 : Nat) (w0 : World) (most : Nat) (l : List PMove) (j : Nat) (W : World) : Prop := ∃ vo, AllO base lo b5 b7 w0 most (l.take j) vo W ∧ j ≤ l.length ∧ j ≤ most
def RngB (base lo b5 b7 : Nat) (w0 : World) (most : Nat) (l : List PMove) (j b8 : Nat) (W : World) : Prop := ∃ (hj : j < l.length) (vo vr vw : Value), AllO base lo b5 b7 w0 most (l.take j) vo W ∧ j ≤ most ∧ Holds W b8 44 (mvC l[j] vr vw) ∧ MovG (fun q => lo ≤ q ∧ vo.ownBlock ≠ some q) W l[j] (mvC l[j] vr vw)
theorem RngL.kept {base lo b5 b7 : Nat} {w0 W W' : World} {most j : Nat} {l : List PMove} {row : Option Nat} (h : RngL base lo b5 b7 w0 most l j W) (hg : W.grownBy W' row) (hr : ∀ r, row = some r → lo ≤ r ∧ ∃ o : Obj, W.heap[r]? = some o ∧ o.isCells = false) : RngL base lo b5 b7 w0 most l j W' := by
  obtain ⟨vo, h1, h2⟩ := h
  exact ⟨vo, h1.kept hg hr, h2⟩
theorem RngB.kept {base lo b5 b7 b8 : Nat} {w0 W W' : World} {most j : Nat} {l : List PMove} {row : Option Nat} (h : RngB base lo b5 b7 w0 most l j b8 W) (hg : W.grownBy W' row) (hr : ∀ r, row = some r → lo ≤ r ∧ ∃ o : Obj, W.heap[r]? = some o ∧ o.isCells = false) : RngB base lo b5 b7 w0 most l j b8 W' := by
  obtain ⟨hj, vo, vr, vw, h1, h2, h3, h4⟩ := h
  exact ⟨hj, vo, vr, vw, h1.kept hg hr, h2, h3.kept_row hg fun r e => (hr r e).2, MovG.kept hg (fun r e => (hr r e).2) h4⟩
theorem RngB.start {base lo b5 b7 b8 : Nat} {w0 W0 W W' : World} {most j : Nat} {l : List PMove} {vr vw : Value} (h : RngL base lo b5 b7 w0 most l j W0) (hb : Below W0.heap.size W0 W) (hj : j < l.length) (hr : RowX W0.heap.size W vr l[j].reads) (hw : RowX W0.heap.size W vw l[j].writes) (hb2 : Below W.heap.size W W') (h8 : Holds W' b8 44 (mvC l[j] vr vw)) : RngB base lo b5 b7 w0 most l j b8 W' := by
  obtain ⟨vo, h1, h2, h3⟩ := h
  obtain ⟨fo, k1, _⟩ := h1.row
  have hlts := h1.lts
  have hwide : Wide (From W0.heap.size) (fun q => lo ≤ q ∧ vo.ownBlock ≠ some q) W' := fun k hk _ => ⟨by have : W0.heap.size ≤ k := hk; omega, fun e => by have := owns_lt k1 k e; have : W0.heap.size ≤ k := hk; omega⟩
  have hr2 := hr.below hb2
  have hw2 := hw.below hb2
  exact ⟨hj, vo, vr, vw, h1.fresh (hb.trans (hb2.mono hb.size)), h3, h8, ⟨vr, vw, rfl, ⟨hr2.2.mono hwide, hr2.si.mono hwide⟩, hw2.2.mono hwide, hw2.si.mono hwide⟩⟩
def AllPost (l : List PMove) (most : Nat) (w : World) (e : Ending) (w' : World) : Prop := Below w.heap.size w w' ∧ ∃ vo k fo lo, e = .returned vo ∧ (k = l.length ∨ k = most) ∧ k ≤ l.length ∧ k ≤ most ∧ w.heap.size ≤ lo ∧ w'.ownsRow lo 44 9 vo k fo ∧ LsF MovG (fun q => lo ≤ q ∧ vo.ownBlock ≠ some q) w' (l.take k) fo
end Go.Proofs.Ytcopoaaofjeklaa.G
end
