/- Rows of an alternating automaton's moves; slices.IndexFunc and slices.ContainsFunc over them. -/
import Derived.Test.YtelanndleinabaaDoorIdx
namespace Go.Proofs.YtelanndleinabaaDoor
open Go.RowKit
set_option linter.unusedVariables false

/-- A move of an alternating automaton. -/
structure AMv where
  yes : Nat
  no : Nat
  to : List Int
deriving DecidableEq
/-- .. with the value of its row of states. -/
abbrev AP := AMv × Value
def apCells (p : AP) : List Value := [.int .u64 (p.1.yes : Int), .int .u64 (p.1.no : Int), p.2]
def aps (ps : List AP) : List Value := ps.flatMap apCells
def apVal (p : AP) : Value := .agg #[.int .u64 (p.1.yes : Int), .int .u64 (p.1.no : Int), p.2]
theorem aps_len (ps : List AP) : (aps ps).length = ps.length * 3 := by
  induction ps with
  | nil => rfl
  | cons d ds ih =>
    have : aps (d :: ds) = apCells d ++ aps ds := by simp [aps]
    rw [this, List.length_append, ih, List.length_cons]
    simp [apCells]; omega
theorem aps_snoc (ds : List AP) (d : AP) : aps (ds ++ [d]) = aps ds ++ apCells d := by simp [aps]
theorem aps_at : ∀ (ms : List AP) (i : Nat) (h : i < ms.length), (aps ms)[i * 3]? = some (.int .u64 (ms[i].1.yes : Int)) ∧ (aps ms)[i * 3 + 1]? = some (.int .u64 (ms[i].1.no : Int)) ∧ (aps ms)[i * 3 + 2]? = some ms[i].2
  | t :: ts, 0, _ => by simp [aps, apCells]
  | t :: ts, i + 1, h => by
    have hi := aps_at ts i (by simpa using h)
    have e : aps (t :: ts) = apCells t ++ aps ts := by simp [aps]
    have hl : (apCells t).length = 3 := rfl
    rw [e]
    rw [List.getElem?_append_right (by rw [hl]; omega), List.getElem?_append_right (by rw [hl]; omega), List.getElem?_append_right (by rw [hl]; omega), hl]
    simp only [show (i + 1) * 3 - 3 = i * 3 by omega, show (i + 1) * 3 + 1 - 3 = i * 3 + 1 by omega, show (i + 1) * 3 + 2 - 3 = i * 3 + 2 by omega, List.getElem_cons_succ]
    exact hi
/-- A row of such pairs that can be read. -/
def RowP (B : Nat) (w : World) (v : Value) (ps : List AP) : Prop := Row B w 3 v ps.length (aps ps)
section
variable {B B' : Nat} {w w' : World} {v : Value} {ps : List AP}
theorem RowP.below (h : RowP B w v ps) (hb : Below B w w') : RowP B w' v ps := Row.below h hb
theorem RowP.mono (h : RowP B w v ps) (hb : B ≤ B') : RowP B' w v ps := Row.mono h hb
theorem RowP.form (h : RowP B w v ps) : ∃ a cap, v = .slice a ps.length cap ∧ ps.length ≤ cap ∧ cap ≤ 9223372036854775807 := Row.form h
theorem RowP.at {a : Option Addr} {m cap : Nat} (h : RowP B w (.slice a m cap) ps) {k : Nat} (hk : k < ps.length) : ∃ g o, a = some ⟨g, o, none⟩ ∧ g < B ∧
    w.cell? ⟨g, o + k * 3, none⟩ = some (.int .u64 (ps[k].1.yes : Int)) ∧ w.cell? ⟨g, o + k * 3 + 1, none⟩ = some (.int .u64 (ps[k].1.no : Int)) ∧ w.cell? ⟨g, o + k * 3 + 2, none⟩ = some ps[k].2 := by
  obtain ⟨g, o, ha, hg, hc⟩ := Row.at h (by omega)
  obtain ⟨f0, f1, f2⟩ := aps_at ps k hk
  refine ⟨g, o, ha, hg, ?_, ?_, ?_⟩
  · rw [hc (k * 3) (by omega)]; exact f0
  · rw [Nat.add_assoc, hc (k * 3 + 1) (by omega)]; exact f1
  · rw [Nat.add_assoc, hc (k * 3 + 2) (by omega)]; exact f2
end

/-- What is asked of a function value over moves: it may make memory. -/
def PredB (g : Nat) (lb : Array Value) (p : AP → Bool) (w : World) (xs : List AP) : Prop :=
  ∀ w', Below w.heap.size w w' → ∀ x ∈ xs, Calls Tryd.prog g (#[apVal x] ++ lb) w' fun e w'' => e = .returned (.bool (p x)) ∧ Below w'.heap.size w' w''
def firstP (p : AP → Bool) : Nat → List AP → Int
  | _, [] => -1
  | i, x :: r => if p x then (i : Int) else firstP p (i + 1) r
theorem firstP_any (p : AP → Bool) : ∀ (l : List AP) (i : Nat), decide (0 ≤ firstP p i l) = l.any p
  | [], _ => rfl
  | x :: r, i => by
    rw [firstP, List.any_cons]
    by_cases h : p x = true
    · rw [if_pos h, h]; simp
    · rw [if_neg h, firstP_any p r, eq_false_of_ne_true h]; rfl

set_option maxHeartbeats 1000000 in
set_option maxRecDepth 100000 in
theorem indexFuncP (g : Nat) (lb : Array Value) (eg : ∀ args w, (callFunc g args).run Tryd.prog w = .ok (.enter g args) w) (p : AP → Bool) (v : Value) (xs : List AP) (w : World) (hv : RowP w.heap.size w v xs) (hp : PredB g lb p w xs) :
    Calls Tryd.prog 59 #[v, .func (.func g) #[] lb] w fun e w' => e = .returned (.int .i64 (firstP p 0 xs)) ∧ Below w.heap.size w w' := by
  obtain ⟨a, cap, rfl, hc, hm⟩ := hv.form
  obtain ⟨n, hn⟩ : ∃ n, xs.length = n := ⟨_, rfl⟩
  rw [hn] at hc ⊢
  obtain ⟨R, hR⟩ : ∃ R, R = firstP p 0 xs := ⟨_, rfl⟩
  rw [← hR]
  have HR : Hid (R = firstP p 0 (xs.drop 0)) := hR
  clear hR
  have HN := Lib.hid hn
  have HV := Lib.hid hv
  have HP := Lib.hid hp
  clear hn hv hp
  go_enter Tryd.func59, Tryd.ntmps59
  go_wp2
  go_loopw [8] (fun x wr => ∃ k : Nat, x = .int .i64 (k : Int) ∧ k ≤ n ∧ Hid (R = firstP p k (xs.drop k)) ∧ Below w.heap.size w wr) (fun x _ => (n + 10 - intOf x).toNat)
  case atStart => exact ⟨0, rfl, Nat.zero_le _, HR, Below.refl _ _⟩
  case round =>
    clear HR
    obtain ⟨k, rfl, hk, HK, hB⟩ := hrel
    by_cases hl : k < n
    · have hl' : (k : Int) < (n : Int) := by omega
      have hn := HN.out
      obtain ⟨y, hy⟩ : ∃ y, xs[k]? = some y := ⟨_, List.getElem?_eq_getElem (by omega)⟩
      obtain ⟨gb, o, rfl, hgb, f0, f1, f2⟩ := (HV.out.below hB).at (k := k) (by omega)
      have hyk : xs[k]'(by omega) = y := (List.getElem?_eq_some_iff.1 hy).2
      rw [hyk] at f0 f1 f2
      have hpy := Lib.hid (HP.out wr hB y (List.mem_of_getElem? hy))
      have HD := Lib.hid (drop_at hy)
      clear hyk hy hn
      obtain ⟨⟨my, mn, mt⟩, tv⟩ := y
      simp only [apVal] at hpy f0 f1 f2
      go_wp2_with (fail)
      refine (hpy.out).mono ?_
      rintro e wm ⟨rfl, hbm⟩
      have hB2 := hB.trans (hbm.mono hB.size)
      generalize hpb : p (⟨my, mn, mt⟩, tv) = pb
      cases pb
      · have HK' : Hid (R = firstP p (k + 1) (xs.drop (k + 1))) := by
          show _ = _
          rw [HK.out, HD.out, firstP, if_neg (by rw [hpb]; decide)]
        clear hpb
        go_wp2
        exact ⟨⟨k + 1, rfl, by omega, HK', hB2⟩, by simp [intOf]; omega⟩
      · have hres : R = (k : Int) := by rw [HK.out, HD.out, firstP, if_pos hpb]
        clear hpb
        go_wp2
        go_ret
        rw [hres]
        exact ⟨rfl, hB2⟩
    · have hl' : decide ((k : Int) < (n : Int)) = false := decide_eq_false (by omega)
      have hres : R = -1 := by
        rw [HK.out, List.drop_eq_nil_of_le (by rw [HN.out]; omega)]; rfl
      go_wp2
      go_ret
      rw [hres]
      exact ⟨rfl, hB⟩

set_option maxRecDepth 100000 in
theorem containsFuncP (g : Nat) (lb : Array Value) (eg : ∀ args w, (callFunc g args).run Tryd.prog w = .ok (.enter g args) w) (p : AP → Bool) (v : Value) (xs : List AP) (w : World) (hv : RowP w.heap.size w v xs) (hp : PredB g lb p w xs) :
    Calls Tryd.prog 48 #[v, .func (.func g) #[] lb] w fun e w' => e = .returned (.bool (xs.any p)) ∧ Below w.heap.size w w' := by
  have hC := Lib.hid (indexFuncP g lb eg p v xs w hv hp)
  have hA := Lib.hid (firstP_any p xs 0)
  clear hv hp
  go_enter Tryd.func48, Tryd.ntmps48
  go_wp2_with (fail)
  refine (hC.out).mono ?_
  rintro e w2 ⟨rfl, hb⟩
  go_wp2
  go_ret
  rw [← hA.out]
  exact ⟨rfl, hb⟩
end Go.Proofs.YtelanndleinabaaDoor
