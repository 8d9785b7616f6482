/- Afo, Aap, joined. -/
import Derived.Test.YtcopoaaofjeklaaTsy
import Derived.Lib.SlicesCompact
section
/- Footprints, and which moves are enough: plain. -/
namespace Go.Proofs.Ytcopoaaofjeklaa.G
set_option linter.unusedVariables false
set_option linter.unusedSimpArgs false

structure PFoot where
  reads : List Int
  writes : List Int
  turns : Nat
def zeroF : PFoot := ⟨[], [], 0⟩
def joinP (x y : List Int) : List Int := Lib.compact ((x ++ y).mergeSort fun a b => decide (a ≤ b))
def togP (a b : PFoot) : PFoot := ⟨joinP a.reads b.reads, joinP a.writes b.writes, a.turns ||| b.turns⟩
def footP (t : PThr) (p : List TNode) (x : TNode) (a : TArc) : PFoot := ⟨footR a, footW a, tfootT t p x a⟩
def hereGo (t : PThr) (p : List TNode) (x : TNode) : List TArc → PFoot → PFoot
  | [], f => f
  | a :: r, f => hereGo t p x r (togP f (footP t p x a))
def hereF (t : PThr) (p : List TNode) (k : Nat) : PFoot := match p[k]? with
  | some x => hereGo t p x x.arcs zeroF
  | none => zeroF
/-- The nodes that arcs lead to, behind those that are known. -/
def reach : List TArc → List Int → List Int
  | [], r => r
  | a :: l, r => reach l (if a.bad = 0 ∧ a.dst ∉ r then r ++ [a.dst] else r)
def everGo (t : PThr) (p : List TNode) : Nat → Nat → List Int → PFoot → PFoot
  | 0, _, _, f => f
  | fuel + 1, i, row, f => match row[i]? with
    | some k => everGo t p fuel (i + 1) (match p[k.toNat]? with | some x => reach x.arcs row | none => row) (togP f (hereF t p k.toNat))
    | none => f
def tlive (t : PThr) (s : ByteArray) : List Nat := match tstate t s with
  | some (_, ns) => List.range ns.length
  | none => []
def there (t : PThr) (s : ByteArray) (p : Int) : PFoot := match tstate t s with
  | some (_, ns) => if p < 0 then zeroF else match t.procs[p.toNat]?, ns[p.toNat]? with
    | some l, some k => hereF t l k
    | _, _ => zeroF
  | none => zeroF
def tever (t : PThr) (s : ByteArray) (p : Int) : PFoot := match tstate t s with
  | some (_, ns) => if p < 0 then zeroF else match t.procs[p.toNat]?, ns[p.toNat]? with
    | some l, some k => everGo t l 61 0 [(k : Int)] zeroF
    | _, _ => zeroF
  | none => zeroF
/-- A system that tells more. -/
structure Stat where
  sys : Sys
  live : ByteArray → List Nat
  here : ByteArray → Int → PFoot
  ever : ByteArray → Int → PFoot
def tstat (t : PThr) : Stat := ⟨tsys t, tlive t, there t, tever t⟩
def meetsP (a b : List Int) : Bool := a.any fun n => b.any fun m => decide (m = n)
def apartP (a b : PFoot) : Bool := !meetsP a.writes b.reads && !meetsP a.writes b.writes && !meetsP b.writes a.reads
/-- A process's moves, where it goes on apart from others by its moves. -/
def stopM (p : Int) (m : PMove) : Bool := decide (m.wth = p) || decide (m.proc = p) && (!decide (m.bad = 0) || decide (0 ≤ m.wth))
def aloneGo (p : Int) : List PMove → List PMove → Bool → List PMove × Bool
  | [], l, o => (l, o && decide (0 < l.length))
  | m :: r, l, o => if m.wth = p then ([], false) else if m.proc ≠ p then aloneGo p r l true else if m.bad ≠ 0 ∨ 0 ≤ m.wth then ([], false) else aloneGo p r (l ++ [m]) o
def aloneP (p : Int) (all : List PMove) : List PMove × Bool := aloneGo p all [] false
/-- Are the moves of this process enough? -/
def fineP (S : Stat) (s : ByteArray) (vis : Nat) (p : Nat) : Bool :=
  (aloneP p (S.sys.next s)).2 && decide ((S.here s p).turns &&& vis = 0) && (S.live s).all fun q => decide (q = p) || apartP (S.here s p) (S.ever s q)
def chooseGo (S : Stat) (s : ByteArray) (vis : Nat) : List Nat → List PMove × Bool
  | [] => (S.sys.next s, false)
  | p :: r => if fineP S s vis p then ((aloneP p (S.sys.next s)).1, true) else chooseGo S s vis r
def chooseP (S : Stat) (s : ByteArray) (vis : Nat) : List PMove × Bool := chooseGo S s vis (S.live s)
theorem meets_symm (a b : List Int) : meetsP a b = meetsP b a := by
  unfold meetsP
  rw [Bool.eq_iff_iff]
  simp only [List.any_eq_true, decide_eq_true_eq]
  constructor
  · rintro ⟨x, hx, y, hy, rfl⟩; exact ⟨y, hy, y, hx, rfl⟩
  · rintro ⟨x, hx, y, hy, rfl⟩; exact ⟨y, hy, y, hx, rfl⟩
theorem apart_symm (a b : PFoot) : apartP a b = apartP b a := by
  unfold apartP
  rw [meets_symm a.writes b.writes]
  cases meetsP a.writes b.reads <;> cases meetsP b.writes a.writes <;> cases meetsP b.writes a.reads <;> rfl
end Go.Proofs.Ytcopoaaofjeklaa.G
end
section
/- The walks of the two programs' Apart. -/
namespace Go.Proofs.Ytcopoaaofjeklaa.G
open Go.RowKit
set_option linter.unusedVariables false
set_option linter.unusedSimpArgs false

theorem meets_yes {a b : List Int} {i k : Nat} (hi : i < a.length) (hk : k < b.length) (h : a[i] = b[k]) : meetsP a b = true := by
  unfold meetsP
  rw [List.any_eq_true]
  refine ⟨a[i], List.getElem_mem hi, ?_⟩
  rw [List.any_eq_true]
  exact ⟨b[k], List.getElem_mem hk, decide_eq_true h.symm⟩
theorem meets_no {a b : List Int} (h : ∀ x ∈ a, ∀ y ∈ b, y ≠ x) : meetsP a b = false := by
  unfold meetsP
  rw [List.any_eq_false]
  intro x hx
  rw [Bool.not_eq_true, List.any_eq_false]
  intro y hy
  simpa using h x hx y hy
theorem at_int {P : Nat → Prop} {w : World} {a : Option Addr} {n c : Nat} {l : List Int} (h : RowL P w 1 (.slice a n c) l.length (l.map intV)) {i : Nat} (hi : i < l.length) : ∃ g o, a = some ⟨g, o, none⟩ ∧ w.cell? ⟨g, o + i, none⟩ = some (.int .i64 l[i]) := by
  obtain ⟨g, o, c', x, he, hx, hc⟩ := h.at1 hi
  injection he with he _ _
  rw [List.getElem?_map, List.getElem?_eq_getElem hi] at hx
  injection hx with hx
  exact ⟨g, o, he, by rw [hc, ← hx]; rfl⟩
def BoolB (b : Bool) (w : World) (e : Ending) (w' : World) : Prop := e = .returned (.bool b) ∧ Below w.heap.size w w'
set_option maxHeartbeats 1000000 in
set_option maxRecDepth 100000 in
theorem commonFn {P P' : Nat → Prop} {w : World} {v v' : Value} {l l' : List Int} (h : RowL P w 1 v l.length (l.map intV)) (h' : RowL P' w 1 v' l'.length (l'.map intV)) (hn : l.length ≤ 9223372036854775807) (hm : l'.length ≤ 9223372036854775807) : Calls Try.prog 14 #[v, v'] w (BoolB (meetsP l l') w) := by
  obtain ⟨a, c, rfl, hc1, _, _⟩ := h.form
  obtain ⟨a', c', rfl, hc1', _, _⟩ := h'.form
  obtain ⟨N, hN⟩ : ∃ N, l.length = N := ⟨_, rfl⟩
  obtain ⟨M, hM⟩ : ∃ N, l'.length = N := ⟨_, rfl⟩
  have H := Lib.hid h
  have H' := Lib.hid h'
  have HN := Lib.hid hN
  have HM := Lib.hid hM
  rw [hN] at hc1 hn
  rw [hM] at hc1' hm
  rw [hN, hM]
  clear h h' hN hM
  go_enter Try.func14, Try.ntmps14
  go_wp2
  go_loopw [5] (fun x wr => ∃ i : Nat, x = .int .i64 (i : Int) ∧ i ≤ N ∧ Hid (∀ x ∈ l.take i, ∀ y ∈ l', y ≠ x) ∧ Hid (Below w.heap.size w wr)) (fun x _ => N - (intOf x).toNat)
  case atStart => exact ⟨0, rfl, Nat.zero_le _, by show ∀ x ∈ _, _; simp, Below.refl _ _⟩
  case round =>
    obtain ⟨i, hx, hi, HG, HB⟩ := hrel
    subst hx
    by_cases hin : i < N
    · have hil : i < l.length := by rw [HN.out]; exact hin
      have hi2i : (i : Int) < (N : Int) := by omega
      have hi0i : (0 : Int) ≤ (i : Int) := by omega
      have hwii : IntKind.i64.wrap (i : Int) = (i : Int) := by rw [IntKind.wrap_i64]; omega
      have hwji : IntKind.i64.wrap ((i : Int) + 1) = (i : Int) + 1 := by rw [IntKind.wrap_i64]; omega
      go_wp2
      obtain ⟨w1, rfl⟩ : ∃ W, W = wr := ⟨_, rfl⟩
      go_loopw [6] (fun y W => ∃ k : Nat, y = .int .i64 (k : Int) ∧ k ≤ M ∧ Hid (∀ y ∈ l'.take k, y ≠ l[i]) ∧ Hid (Below w.heap.size w W)) (fun y _ => M - (intOf y).toNat)
      case atStart => exact ⟨0, rfl, Nat.zero_le _, by show ∀ x ∈ _, _; simp, HB.out⟩
      case round =>
        clear HB
        obtain ⟨k, hy, hk, HK, HB⟩ := hrel
        subst hy
        by_cases hkm : k < M
        · have hkl : k < l'.length := by rw [HM.out]; exact hkm
          have hi2k : (k : Int) < (M : Int) := by omega
          have hi0k : (0 : Int) ≤ (k : Int) := by omega
          have hwik : IntKind.i64.wrap (k : Int) = (k : Int) := by rw [IntKind.wrap_i64]; omega
          have hwjk : IntKind.i64.wrap ((k : Int) + 1) = (k : Int) + 1 := by rw [IntKind.wrap_i64]; omega
          obtain ⟨g, o, rfl, hcl⟩ := at_int (H.out.up (Keep.below HB.out)) hil
          obtain ⟨g', o', rfl, hcl'⟩ := at_int (H'.out.up (Keep.below HB.out)) hkl
          obtain ⟨p, hp⟩ : ∃ p, l[i] = p := ⟨_, rfl⟩
          obtain ⟨q, hq⟩ : ∃ p, l'[k] = p := ⟨_, rfl⟩
          rw [hp] at hcl
          rw [hq] at hcl'
          have HP := Lib.hid hp
          have HQ := Lib.hid hq
          clear hp hq
          by_cases hpq : p = q
          · have d1 : (p == q) = true := by rw [hpq]; exact beq_self_eq_true _
            have HY : Hid (meetsP l l' = true) := meets_yes hil hkl (by rw [HP.out, HQ.out]; exact hpq)
            clear hpq
            go_wp2
            go_quiet (fail)
            have HB2 : Hid (Below w.heap.size w (wr.drewN nq)) := ((Fr.of_below HB.out (fun _ => False)).drewN nq).to_below (Nat.le_refl _) fun _ _ h => h
            clear hcl hcl' HB
            go_wp2
            go_ret
            exact ⟨by rw [HY.out]; rfl, HB2.out⟩
          · have d1 : (p == q) = false := by rw [beq_eq_false_iff_ne]; exact hpq
            have HPQ := Lib.hid hpq
            clear hpq
            go_wp2
            go_quiet (fail)
            have HB2 : Hid (Below w.heap.size w (wr.drewN nq)) := ((Fr.of_below HB.out (fun _ => False)).drewN nq).to_below (Nat.le_refl _) fun _ _ h => h
            have HKN : Hid (∀ y ∈ l'.take (k + 1), y ≠ l[i]) := fun y hy => by
              rw [List.take_add_one, List.getElem?_eq_getElem hkl, HQ.out] at hy
              rcases List.mem_append.1 hy with hy | hy
              · exact HK.out y hy
              · simp at hy
                subst hy
                rw [HP.out]
                exact fun e => HPQ.out e.symm
            clear hcl hcl' HB
            go_wp2
            refine ⟨⟨k + 1, by simp, by omega, HKN, HB2⟩, ?_⟩
            simp [intOf]
            omega
        · obtain rfl : k = M := by omega
          have HGN : Hid (∀ x ∈ l.take (i + 1), ∀ y ∈ l', y ≠ x) := fun x hx y hy => by
            rw [List.take_add_one, List.getElem?_eq_getElem hil] at hx
            rcases List.mem_append.1 hx with hx | hx
            · exact HG.out x hx y hy
            · simp at hx
              subst hx
              exact HK.out y (by rw [List.take_of_length_le (by rw [HM.out]; exact Nat.le_refl _)]; exact hy)
          clear HK
          go_wp2
          refine ⟨⟨i + 1, by simp, by omega, HGN, HB⟩, ?_⟩
          simp [intOf]
          omega
    · obtain rfl : i = N := by omega
      have HY : Hid (meetsP l l' = false) := meets_no fun x hx => HG.out x (by rw [List.take_of_length_le (by rw [HN.out]; exact Nat.le_refl _)]; exact hx)
      go_wp2
      go_ret
      exact ⟨by rw [HY.out]; rfl, HB.out⟩
/-- A footprint in memory. -/
def FtV (P : Nat → Prop) (w : World) (v : Value) (f : PFoot) : Prop := ∃ vr vw, v = .agg #[vr, vw, .int .u64 (f.turns : Int)] ∧ RowL P w 1 vr f.reads.length (f.reads.map intV) ∧ RowL P w 1 vw f.writes.length (f.writes.map intV)
theorem FtV.up {P : Nat → Prop} {w w' : World} {v : Value} {f : PFoot} (h : FtV P w v f) (hu : Keep P w w') : FtV P w' v f := by
  obtain ⟨vr, vw, h1, h2, h3⟩ := h
  exact ⟨vr, vw, h1, h2.up hu, h3.up hu⟩
theorem FtV.mono {P Q : Nat → Prop} {w : World} {v : Value} {f : PFoot} (h : FtV P w v f) (hl : Wide P Q w) : FtV Q w v f := by
  obtain ⟨vr, vw, h1, h2, h3⟩ := h
  exact ⟨vr, vw, h1, h2.mono hl, h3.mono hl⟩
def SmallF (f : PFoot) : Prop := f.reads.length ≤ 9223372036854775807 ∧ f.writes.length ≤ 9223372036854775807
set_option maxHeartbeats 1000000 in
set_option maxRecDepth 100000 in
theorem indexFn {P : Nat → Prop} {w : World} {v : Value} {l : List Int} {n : Int} (h : RowL P w 1 v l.length (l.map intV)) (hn : l.length ≤ 9223372036854775807) : Calls Try.prog 31 #[v, .int .i64 n] w (fun e w' => (∃ r : Int, e = .returned (.int .i64 r) ∧ decide (0 ≤ r) = l.any fun m => decide (m = n)) ∧ Below w.heap.size w w') := by
  obtain ⟨a, c, rfl, hc1, _, _⟩ := h.form
  obtain ⟨N, hN⟩ : ∃ N, l.length = N := ⟨_, rfl⟩
  have H := Lib.hid h
  have HN := Lib.hid hN
  rw [hN] at hc1 hn
  rw [hN]
  clear h hN
  go_enter Try.func31, Try.ntmps31
  go_wp2
  go_loopw [8] (fun x wr => ∃ i : Nat, x = .int .i64 (i : Int) ∧ i ≤ N ∧ Hid (∀ x ∈ l.take i, x ≠ n) ∧ Hid (Below w.heap.size w wr)) (fun x _ => N - (intOf x).toNat)
  case atStart => exact ⟨0, rfl, Nat.zero_le _, by show ∀ x ∈ _, _; simp, Below.refl _ _⟩
  case round =>
    obtain ⟨i, hx, hi, HG, HB⟩ := hrel
    subst hx
    by_cases hin : i < N
    · have hil : i < l.length := by rw [HN.out]; exact hin
      have hi2i : (i : Int) < (N : Int) := by omega
      have hi0i : (0 : Int) ≤ (i : Int) := by omega
      have hwii : IntKind.i64.wrap (i : Int) = (i : Int) := by rw [IntKind.wrap_i64]; omega
      have hwji : IntKind.i64.wrap ((i : Int) + 1) = (i : Int) + 1 := by rw [IntKind.wrap_i64]; omega
      obtain ⟨g, o, rfl, hcl⟩ := at_int (H.out.up (Keep.below HB.out)) hil
      obtain ⟨p, hp⟩ : ∃ p, l[i] = p := ⟨_, rfl⟩
      rw [hp] at hcl
      have HP := Lib.hid hp
      clear hp
      by_cases hpq : n = p
      · have d1 : (n == p) = true := by rw [hpq]; exact beq_self_eq_true _
        have HY : Hid ((l.any fun m => decide (m = n)) = true) := by
          show _ = _
          rw [List.any_eq_true]
          exact ⟨l[i], List.getElem_mem hil, by rw [HP.out]; exact decide_eq_true hpq.symm⟩
        clear hpq
        go_wp2
        go_ret
        exact ⟨⟨_, rfl, by rw [HY.out]; exact decide_eq_true hi0i⟩, HB.out⟩
      · have d1 : (n == p) = false := by rw [beq_eq_false_iff_ne]; exact hpq
        have HKN : Hid (∀ y ∈ l.take (i + 1), y ≠ n) := fun y hy => by
          rw [List.take_add_one, List.getElem?_eq_getElem hil, HP.out] at hy
          rcases List.mem_append.1 hy with hy | hy
          · exact HG.out y hy
          · simp at hy
            subst hy
            exact fun e => hpq e.symm
        clear hpq
        go_wp2
        refine ⟨⟨i + 1, by simp, by omega, HKN, HB⟩, ?_⟩
        simp [intOf]
        omega
    · obtain rfl : i = N := by omega
      have HY : Hid ((l.any fun m => decide (m = n)) = false) := by
        show _ = _
        rw [List.any_eq_false]
        intro x hx
        have h1 := HG.out x (by rw [List.take_of_length_le (by rw [HN.out]; exact Nat.le_refl _)]; exact hx)
        simpa using h1
      go_wp2
      go_ret
      exact ⟨⟨-1, rfl, by rw [HY.out]; rfl⟩, HB.out⟩
theorem containsFn {P : Nat → Prop} {w : World} {v : Value} {l : List Int} {n : Int} (h : RowL P w 1 v l.length (l.map intV)) (hn : l.length ≤ 9223372036854775807) : Calls Try.prog 26 #[v, .int .i64 n] w (BoolB (l.any fun m => decide (m = n)) w) := by
  have HC := Lib.hid (indexFn (n := n) h hn)
  clear h hn
  go_enter Try.func26, Try.ntmps26
  go_wp2_with (go_at_call 31; refine HC.out.mono ?_; rintro e w2 ⟨⟨r, rfl, hr⟩, hb⟩; have HR := Lib.hid hr; have HB := Lib.hid hb; clear hr hb)
  go_ret
  exact ⟨by rw [← HR.out]; rfl, HB.out⟩
theorem meets1Fn {P : Nat → Prop} {w : World} {b : Nat} {v : Value} {l : List Int} {n : Int} (h : RowL P w 1 v l.length (l.map intV)) (hn : l.length ≤ 9223372036854775807) (hb : Holds w b 22 [v]) : Calls Try.prog 25 #[.int .i64 n, .pointer (some ⟨b, 0, none⟩)] w (BoolB (l.any fun m => decide (m = n)) w) := by
  have HC := Lib.hid (containsFn (n := n) h hn)
  have e0 := hb.cell 0
  simp only [List.getElem?_cons_zero] at e0
  clear h hn hb
  go_enter Try.func25, Try.ntmps25
  go_wp2_with (go_at_call 26; refine HC.out.mono ?_; rintro e w2 ⟨rfl, hb⟩; have HB := Lib.hid hb; clear hb)
  go_ret
  exact ⟨rfl, HB.out⟩
set_option maxHeartbeats 1000000 in
set_option maxRecDepth 100000 in
theorem indexFuncFn {P P' : Nat → Prop} {w : World} {b : Nat} {v v' : Value} {l l' : List Int} (h : RowL P w 1 v l.length (l.map intV)) (hn : l.length ≤ 9223372036854775807) (h' : RowL P' w 1 v' l'.length (l'.map intV)) (hm : l'.length ≤ 9223372036854775807) (hb : Holds w b 22 [v']) :
    Calls Try.prog 30 #[v, .func (.func 25) #[] #[.pointer (some ⟨b, 0, none⟩)]] w (fun e w' => (∃ r : Int, e = .returned (.int .i64 r) ∧ decide (0 ≤ r) = meetsP l l') ∧ Below w.heap.size w w') := by
  obtain ⟨a, c, rfl, hc1, _, _⟩ := h.form
  obtain ⟨N, hN⟩ : ∃ N, l.length = N := ⟨_, rfl⟩
  have H := Lib.hid h
  have H' := Lib.hid h'
  have HBB := Lib.hid hb
  have HM := Lib.hid hm
  have HN := Lib.hid hN
  rw [hN] at hc1 hn
  rw [hN]
  clear h hN h' hb hm
  go_enter Try.func30, Try.ntmps30
  go_wp2
  go_loopw [8] (fun x wr => ∃ i : Nat, x = .int .i64 (i : Int) ∧ i ≤ N ∧ Hid (∀ x ∈ l.take i, ∀ y ∈ l', y ≠ x) ∧ Hid (Below w.heap.size w wr)) (fun x _ => N - (intOf x).toNat)
  case atStart => exact ⟨0, rfl, Nat.zero_le _, by show ∀ x ∈ _, _; simp, Below.refl _ _⟩
  case round =>
    obtain ⟨i, hx, hi, HG, HB⟩ := hrel
    subst hx
    by_cases hin : i < N
    · have hil : i < l.length := by rw [HN.out]; exact hin
      have hi2i : (i : Int) < (N : Int) := by omega
      have hi0i : (0 : Int) ≤ (i : Int) := by omega
      have hwii : IntKind.i64.wrap (i : Int) = (i : Int) := by rw [IntKind.wrap_i64]; omega
      have hwji : IntKind.i64.wrap ((i : Int) + 1) = (i : Int) + 1 := by rw [IntKind.wrap_i64]; omega
      obtain ⟨g, o, rfl, hcl⟩ := at_int (H.out.up (Keep.below HB.out)) hil
      obtain ⟨p, hp⟩ : ∃ p, l[i] = p := ⟨_, rfl⟩
      rw [hp] at hcl
      have HP := Lib.hid hp
      have HC := Lib.hid (meets1Fn (n := p) (H'.out.up (Keep.below HB.out)) HM.out (HBB.out.belowAll HB.out))
      clear hp
      go_wp2_with (fail)
      refine HC.out.mono ?_
      rintro e w2 ⟨rfl, hb2⟩
      have HB2 : Hid (Below w.heap.size w w2) := HB.out.trans (hb2.mono HB.out.size)
      clear hb2 HC hcl
      cases hok : l'.any fun m => decide (m = p) with
      | true =>
        have HY : Hid (meetsP l l' = true) := by
          show _ = _
          unfold meetsP
          rw [List.any_eq_true]
          exact ⟨l[i], List.getElem_mem hil, by rw [HP.out]; exact hok⟩
        clear hok
        go_wp2
        go_ret
        exact ⟨⟨_, rfl, by rw [HY.out]; exact decide_eq_true hi0i⟩, HB2.out⟩
      | false =>
        have HKN : Hid (∀ x ∈ l.take (i + 1), ∀ y ∈ l', y ≠ x) := fun x hx y hy => by
          rw [List.take_add_one, List.getElem?_eq_getElem hil, HP.out] at hx
          rcases List.mem_append.1 hx with hx | hx
          · exact HG.out x hx y hy
          · simp at hx
            subst hx
            rw [List.any_eq_false] at hok
            have h1 := hok y hy
            simpa using h1
        clear hok
        go_wp2
        refine ⟨⟨i + 1, by simp, by omega, HKN, HB2⟩, ?_⟩
        simp [intOf]
        omega
    · obtain rfl : i = N := by omega
      have HY : Hid (meetsP l l' = false) := meets_no fun x hx => HG.out x (by rw [List.take_of_length_le (by rw [HN.out]; exact Nat.le_refl _)]; exact hx)
      go_wp2
      go_ret
      exact ⟨⟨-1, rfl, by rw [HY.out]; rfl⟩, HB.out⟩
theorem containsFuncFn {P P' : Nat → Prop} {w : World} {b : Nat} {v v' : Value} {l l' : List Int} (h : RowL P w 1 v l.length (l.map intV)) (hn : l.length ≤ 9223372036854775807) (h' : RowL P' w 1 v' l'.length (l'.map intV)) (hm : l'.length ≤ 9223372036854775807) (hb : Holds w b 22 [v']) :
    Calls Try.prog 24 #[v, .func (.func 25) #[] #[.pointer (some ⟨b, 0, none⟩)]] w (BoolB (meetsP l l') w) := by
  have HC := Lib.hid (indexFuncFn h hn h' hm hb)
  clear h hn h' hm hb
  go_enter Try.func24, Try.ntmps24
  go_wp2_with (go_at_call 30; refine HC.out.mono ?_; rintro e w2 ⟨⟨r, rfl, hr⟩, hb⟩; have HR := Lib.hid hr; have HB := Lib.hid hb; clear hr hb)
  go_ret
  exact ⟨by rw [← HR.out]; rfl, HB.out⟩
theorem meetsFn {P P' : Nat → Prop} {w : World} {v v' : Value} {l l' : List Int} (h : RowL P w 1 v l.length (l.map intV)) (hn : l.length ≤ 9223372036854775807) (h' : RowL P' w 1 v' l'.length (l'.map intV)) (hm : l'.length ≤ 9223372036854775807) : Calls Try.prog 15 #[v, v'] w (BoolB (meetsP l l') w) := by
  obtain ⟨a', c', rfl, _, _, _⟩ := h'.form
  obtain ⟨w1, hw1⟩ : ∃ W, W = w.alloc (.cells #[.slice a' l'.length c'] 22) := ⟨_, rfl⟩
  have hb1 : Below w.heap.size w w1 := by rw [hw1]; exact (Below.refl _ _).alloc (Nat.le_refl _) _
  have h3 : Holds w1 w.heap.size 22 [.slice a' l'.length c'] := by rw [hw1]; exact Holds.new w 22 #[.slice a' l'.length c']
  have HC := Lib.hid (containsFuncFn (h.up (Keep.below hb1)) hn (h'.up (Keep.below hb1)) hm h3)
  have HB1 := Lib.hid hb1
  have c1 := h'.cell1
  clear h hn h' hm hb1 h3
  go_enter Try.func15, Try.ntmps15
  go_upto_region 1 with (fail)
  rw [← hw1]
  clear hw1
  go_wp2_with (go_at_call 24; refine HC.out.mono ?_; rintro e w2 ⟨rfl, hb⟩; have HB : Hid (Below w.heap.size w w2) := HB1.out.trans (hb.mono HB1.out.size); clear hb)
  go_ret
  exact ⟨rfl, HB.out⟩
theorem foot_len : (Try.prog.info? 25).map (·.size) = some 3 := by kernel_rfl
set_option maxHeartbeats 1000000 in
set_option maxRecDepth 100000 in
theorem refApartFn {P P' : Nat → Prop} {w : World} {v v' : Value} {x y : PFoot} (h : FtV P w v x) (hx : SmallF x) (h' : FtV P' w v' y) (hy : SmallF y) : Calls Try.prog 6 #[v, v'] w (BoolB (apartP x y) w) := by
  obtain ⟨vr, vw, rfl, hr, hw⟩ := h
  obtain ⟨vr', vw', rfl, hr', hw'⟩ := h'
  obtain ⟨w1, hw1⟩ : ∃ W, W = (w.alloc (.cells #[vr, vw, .int .u64 (x.turns : Int)] 25)).alloc (.cells #[vr', vw', .int .u64 (y.turns : Int)] 25) := ⟨_, rfl⟩
  have hb1 : Below w.heap.size w w1 := by rw [hw1]; exact ((Below.refl _ _).alloc (Nat.le_refl _) _).alloc (by simp) _
  have h2 : Holds w1 w.heap.size 25 [vr, vw, .int .u64 (x.turns : Int)] := by rw [hw1]; exact (Holds.new w 25 #[vr, vw, .int .u64 (x.turns : Int)]).alloc _
  have h3 : Holds w1 (w.heap.size + 1) 25 [vr', vw', .int .u64 (y.turns : Int)] := by
    have h := Holds.new (w.alloc (.cells #[vr, vw, .int .u64 (x.turns : Int)] 25)) 25 #[vr', vw', .int .u64 (y.turns : Int)]
    simp only [World.size_alloc] at h
    rw [hw1]; exact h
  have hr1 := hr.up (Keep.below hb1)
  have hw1' := hw.up (Keep.below hb1)
  have hr1' := hr'.up (Keep.below hb1)
  have hw1'' := hw'.up (Keep.below hb1)
  have HB1 := Lib.hid hb1
  have H2 := Lib.hid h2
  have H3 := Lib.hid h3
  have HC1 : Hid (∀ W, Below w1.heap.size w1 W → Calls Try.prog 14 #[vw, vr'] W (BoolB (meetsP x.writes y.reads) W)) := fun W hW => commonFn (hw1'.up (Keep.below hW)) (hr1'.up (Keep.below hW)) hx.2 hy.1
  have HC2 : Hid (∀ W, Below w1.heap.size w1 W → Calls Try.prog 14 #[vw, vw'] W (BoolB (meetsP x.writes y.writes) W)) := fun W hW => commonFn (hw1'.up (Keep.below hW)) (hw1''.up (Keep.below hW)) hx.2 hy.2
  have HC3 : Hid (∀ W, Below w1.heap.size w1 W → Calls Try.prog 14 #[vw', vr] W (BoolB (meetsP y.writes x.reads) W)) := fun W hW => commonFn (hw1''.up (Keep.below hW)) (hr1.up (Keep.below hW)) hy.2 hx.1
  have c1 := hr.cell1
  have c2 := hw.cell1
  have c3 := hr'.cell1
  have c4 := hw'.cell1
  have e1 := h2.cell 1
  have e2 := h3.cell 0
  simp only [List.getElem?_cons_zero, List.getElem?_cons_succ] at e1 e2
  obtain ⟨m1, hm1⟩ : ∃ b, meetsP x.writes y.reads = b := ⟨_, rfl⟩
  obtain ⟨m2, hm2⟩ : ∃ b, meetsP x.writes y.writes = b := ⟨_, rfl⟩
  obtain ⟨m3, hm3⟩ : ∃ b, meetsP y.writes x.reads = b := ⟨_, rfl⟩
  have HM : Hid (apartP x y = (!m1 && !m2 && !m3)) := by show _ = _; rw [← hm1, ← hm2, ← hm3]; rfl
  rw [hm1] at HC1
  rw [hm2] at HC2
  rw [hm3] at HC3
  clear hr hw hr' hw' hb1 h2 h3 hr1 hw1' hr1' hw1'' hx hy hm1 hm2 hm3
  go_enter Try.func6, Try.ntmps6
  go_upto_region 1 with (fail)
  rw [← hw1]
  clear hw1
  go_wp2_with (fail)
  refine (HC1.out w1 (Below.refl _ _)).mono ?_
  rintro e w2 ⟨rfl, hb2⟩
  have HB2 := Lib.hid hb2
  have e1 := (H2.out.belowAll hb2).cell 1
  have e2 := (H3.out.belowAll hb2).cell 1
  simp only [List.getElem?_cons_zero, List.getElem?_cons_succ] at e1 e2
  clear hb2 HC1
  go_wp2_with (fail)
  refine (HC2.out w2 HB2.out).mono ?_
  rintro e w3 ⟨rfl, hb3⟩
  have HB3 : Hid (Below w1.heap.size w1 w3) := HB2.out.trans (hb3.mono HB2.out.size)
  clear hb3 HC2 e1 e2
  have e1 := (H2.out.belowAll HB3.out).cell 0
  have e2 := (H3.out.belowAll HB3.out).cell 1
  simp only [List.getElem?_cons_zero, List.getElem?_cons_succ] at e1 e2
  go_wp2_with (fail)
  refine (HC3.out w3 HB3.out).mono ?_
  rintro e w4 ⟨rfl, hb4⟩
  have HB4 : Hid (Below w.heap.size w w4) := HB1.out.trans ((HB3.out.trans (hb4.mono HB3.out.size)).mono HB1.out.size)
  clear hb4 HC3 e1 e2
  cases m1 <;> cases m2 <;> cases m3 <;>
  (go_wp2
   go_ret
   exact ⟨by rw [HM.out]; rfl, HB4.out⟩)
set_option maxHeartbeats 1000000 in
set_option maxRecDepth 100000 in
theorem apartFn {P P' : Nat → Prop} {w : World} {v v' : Value} {x y : PFoot} (h : FtV P w v x) (hx : SmallF x) (h' : FtV P' w v' y) (hy : SmallF y) : Calls Try.prog 7 #[v, v'] w (BoolB (apartP x y) w) := by
  obtain ⟨vr, vw, rfl, hr, hw⟩ := h
  obtain ⟨vr', vw', rfl, hr', hw'⟩ := h'
  obtain ⟨w1, hw1⟩ : ∃ W, W = (w.alloc (.cells #[vr, vw, .int .u64 (x.turns : Int)] 25)).alloc (.cells #[vr', vw', .int .u64 (y.turns : Int)] 25) := ⟨_, rfl⟩
  have hb1 : Below w.heap.size w w1 := by rw [hw1]; exact ((Below.refl _ _).alloc (Nat.le_refl _) _).alloc (by simp) _
  have h2 : Holds w1 w.heap.size 25 [vr, vw, .int .u64 (x.turns : Int)] := by rw [hw1]; exact (Holds.new w 25 #[vr, vw, .int .u64 (x.turns : Int)]).alloc _
  have h3 : Holds w1 (w.heap.size + 1) 25 [vr', vw', .int .u64 (y.turns : Int)] := by
    have h := Holds.new (w.alloc (.cells #[vr, vw, .int .u64 (x.turns : Int)] 25)) 25 #[vr', vw', .int .u64 (y.turns : Int)]
    simp only [World.size_alloc] at h
    rw [hw1]; exact h
  have hr1 := hr.up (Keep.below hb1)
  have hw1' := hw.up (Keep.below hb1)
  have hr1' := hr'.up (Keep.below hb1)
  have hw1'' := hw'.up (Keep.below hb1)
  have HB1 := Lib.hid hb1
  have H2 := Lib.hid h2
  have H3 := Lib.hid h3
  have HC1 : Hid (∀ W, Below w1.heap.size w1 W → Calls Try.prog 15 #[vw, vr'] W (BoolB (meetsP x.writes y.reads) W)) := fun W hW => meetsFn (hw1'.up (Keep.below hW)) hx.2 (hr1'.up (Keep.below hW)) hy.1
  have HC2 : Hid (∀ W, Below w1.heap.size w1 W → Calls Try.prog 15 #[vw, vw'] W (BoolB (meetsP x.writes y.writes) W)) := fun W hW => meetsFn (hw1'.up (Keep.below hW)) hx.2 (hw1''.up (Keep.below hW)) hy.2
  have HC3 : Hid (∀ W, Below w1.heap.size w1 W → Calls Try.prog 15 #[vw', vr] W (BoolB (meetsP y.writes x.reads) W)) := fun W hW => meetsFn (hw1''.up (Keep.below hW)) hy.2 (hr1.up (Keep.below hW)) hx.1
  have c1 := hr.cell1
  have c2 := hw.cell1
  have c3 := hr'.cell1
  have c4 := hw'.cell1
  have e1 := h2.cell 1
  have e2 := h3.cell 0
  simp only [List.getElem?_cons_zero, List.getElem?_cons_succ] at e1 e2
  obtain ⟨m1, hm1⟩ : ∃ b, meetsP x.writes y.reads = b := ⟨_, rfl⟩
  obtain ⟨m2, hm2⟩ : ∃ b, meetsP x.writes y.writes = b := ⟨_, rfl⟩
  obtain ⟨m3, hm3⟩ : ∃ b, meetsP y.writes x.reads = b := ⟨_, rfl⟩
  have HM : Hid (apartP x y = (!m1 && !m2 && !m3)) := by show _ = _; rw [← hm1, ← hm2, ← hm3]; rfl
  rw [hm1] at HC1
  rw [hm2] at HC2
  rw [hm3] at HC3
  clear hr hw hr' hw' hb1 h2 h3 hr1 hw1' hr1' hw1'' hx hy hm1 hm2 hm3
  go_enter Try.func7, Try.ntmps7
  go_upto_region 1 with (fail)
  rw [← hw1]
  clear hw1
  go_wp2_with (fail)
  refine (HC1.out w1 (Below.refl _ _)).mono ?_
  rintro e w2 ⟨rfl, hb2⟩
  have HB2 := Lib.hid hb2
  have e1 := (H2.out.belowAll hb2).cell 1
  have e2 := (H3.out.belowAll hb2).cell 1
  simp only [List.getElem?_cons_zero, List.getElem?_cons_succ] at e1 e2
  clear hb2 HC1
  cases m1 with
  | true =>
    go_wp2
    go_ret
    exact ⟨by rw [HM.out]; rfl, HB1.out.trans (HB2.out.mono HB1.out.size)⟩
  | false =>
    go_wp2_with (fail)
    refine (HC2.out w2 HB2.out).mono ?_
    rintro e w3 ⟨rfl, hb3⟩
    have HB3 : Hid (Below w1.heap.size w1 w3) := HB2.out.trans (hb3.mono HB2.out.size)
    clear hb3 HC2 e1 e2
    have e1 := (H2.out.belowAll HB3.out).cell 0
    have e2 := (H3.out.belowAll HB3.out).cell 1
    simp only [List.getElem?_cons_zero, List.getElem?_cons_succ] at e1 e2
    cases m2 with
    | true =>
      go_wp2
      go_ret
      exact ⟨by rw [HM.out]; rfl, HB1.out.trans (HB3.out.mono HB1.out.size)⟩
    | false =>
      go_wp2_with (fail)
      refine (HC3.out w3 HB3.out).mono ?_
      rintro e w4 ⟨rfl, hb4⟩
      have HB4 : Hid (Below w.heap.size w w4) := HB1.out.trans ((HB3.out.trans (hb4.mono HB3.out.size)).mono HB1.out.size)
      clear hb4 HC3 e1 e2
      cases m3 <;>
      (go_wp2
       go_ret
       exact ⟨by rw [HM.out]; rfl, HB4.out⟩)
end Go.Proofs.Ytcopoaaofjeklaa.G
end
