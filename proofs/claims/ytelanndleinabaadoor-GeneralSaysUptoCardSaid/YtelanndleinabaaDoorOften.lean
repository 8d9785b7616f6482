/- Size, Often, joined. -/
import Derived.Test.YtelanndleinabaaDoorAChk
section
/- The walks of size and little. -/
namespace Go.Proofs.YtelanndleinabaaDoor
open Go.RowKit
set_option linter.unusedVariables false

set_option maxHeartbeats 4000000 in
set_option maxRecDepth 100000 in
theorem sizeFn (a : Alt) (v : Value) (w : World) (hA : AltAt w.heap.size w v a) (hb : a.init.length + movesN a.states ≤ 4000000) :
    Calls Tryd.prog 15 #[v] w fun e w' => e = .returned (.tuple #[.int .i64 (a.states.length : Int), .int .i64 ((a.init.length + movesN a.states : Nat) : Int)]) ∧ Below w.heap.size w w' := by
  obtain ⟨x, y, rfl, hx, hy⟩ := hA
  obtain ⟨a1, cap1, rfl, hc1, hm1⟩ := hx.form
  obtain ⟨a2, cap2, rfl, hc2, hm2⟩ := hy.form
  obtain ⟨n, hn⟩ : ∃ n, a.states.length = n := ⟨_, rfl⟩
  obtain ⟨q, hq⟩ : ∃ q, a.init.length = q := ⟨_, rfl⟩
  obtain ⟨R, hR⟩ : ∃ R, q + movesN a.states = R := ⟨_, rfl⟩
  rw [hn] at hc2 hy ⊢
  rw [hq] at hc1 hb hx ⊢
  rw [hR] at hb ⊢
  have HN := Lib.hid hn
  have HR := Lib.hid hR
  have HY := Lib.hid hy
  have hB0 : Below w.heap.size w (w.alloc (.cells #[.slice a1 q cap1, .slice a2 n cap2] 39)) := (Below.refl _ _).alloc (Nat.le_refl _) _
  have hG0 := Holds.new w 39 #[.slice a1 q cap1, .slice a2 n cap2]
  have hqb : q ≤ 4000000 := by omega
  clear hn hq hR hx hy
  go_enter Tryd.func15, Tryd.ntmps15
  go_wp2
  generalize w.alloc (.cells #[.slice a1 q cap1, .slice a2 n cap2] 39) = W at *
  have x0 := hG0.cell 0
  have x1 := hG0.cell 1
  simp only [List.getElem?_cons_zero, List.getElem?_cons_succ] at x0 x1
  go_loopw [4, 5] (fun m x wr => ∃ (k M : Nat), x = .int .i64 (k : Int) ∧ m = .int .i64 (M : Int) ∧ k ≤ n ∧ Hid (M = q + movesN (a.states.take k)) ∧ M ≤ 4000000 ∧ wr = W) (fun _ x _ => (n + 10 - intOf x).toNat)
  case atStart => exact ⟨0, q, rfl, rfl, Nat.zero_le _, rfl, hqb, rfl⟩
  case round =>
    obtain ⟨k, M, rfl, rfl, hk, HM, hMb, rfl⟩ := hrel
    by_cases hl : k < n
    · have hl' : (k : Int) < (n : Int) := by omega
      obtain ⟨st, hst⟩ : ∃ y, a.states[k]? = some y := ⟨_, List.getElem?_eq_getElem (by rw [HN.out]; exact hl)⟩
      obtain ⟨gb, o, u, rfl, hgb, e0', e1', hu⟩ := HY.out.at (k := k) (by rw [HN.out]; exact hl)
      rw [(List.getElem?_eq_some_iff.1 hst).2] at hu e0'
      have e1 := (cell_below hB0 hgb _).trans e1'
      have hta := take_at hst
      obtain ⟨a3, cap3, rfl, hc3, hm3⟩ := hu.form
      obtain ⟨p, hp⟩ : ∃ p, st.2.length = p := ⟨_, rfl⟩
      rw [hp] at hc3 e1
      have hMn : M + p = q + movesN (a.states.take (k + 1)) := by
        rw [hta, HM.out]; unfold movesN; rw [List.map_append, List.sum_append]; simp [hp]; omega
      have hsum : M + p ≤ 4000000 := by
        have := movesN_take a.states (k + 1)
        have := HR.out
        omega
      have HMN := Lib.hid hMn
      clear hta hMn hp hst hu e0' e1'
      go_wp2
      exact ⟨⟨k + 1, M + p, rfl, rfl, by omega, HMN, hsum, trivial⟩, by simp [intOf]; omega⟩
    · have hl' : decide ((k : Int) < (n : Int)) = false := decide_eq_false (by omega)
      have hMt : M = R := by rw [HM.out, List.take_of_length_le (by rw [HN.out]; omega)]; exact HR.out
      subst hMt
      go_wp2
      go_ret2
      exact ⟨rfl, hB0⟩

def genN (g : Gen) : Nat := g.states.length + (g.states.map List.length).sum
/-- Is it small enough to be looked at? -/
def littleB (g : Gen) (l : Las) : Bool := decide (genN g * (l.pre.length + l.loop.length) ≤ 600)
set_option maxHeartbeats 4000000 in
set_option maxRecDepth 100000 in
theorem littleFn (g : Gen) (l : Las) (vg vl : Value) (w : World) (hg : GenAt w.heap.size w vg g) (hl : LasAt w.heap.size w vl l) (hb : genN g ≤ 4000000) (hb2 : l.pre.length + l.loop.length ≤ 4000000) :
    Calls Tryd.prog 11 #[vg, vl] w fun e w' => e = .returned (.bool (littleB g l)) ∧ Below w.heap.size w w' := by
  obtain ⟨va, vb, rfl, hs, ha, hbb⟩ := hg
  obtain ⟨a1, cap1, rfl, hc1, hm1⟩ := ha.form
  obtain ⟨a2, cap2, rfl, hc2, hm2⟩ := hbb.form
  obtain ⟨vp, vq, rfl, hp, hq⟩ := hl
  obtain ⟨a3, cap3, rfl, hc3, hm3⟩ := hp.form
  obtain ⟨a4, cap4, rfl, hc4, hm4⟩ := hq.form
  obtain ⟨n, hn⟩ : ∃ n, g.states.length = n := ⟨_, rfl⟩
  obtain ⟨q, hqn⟩ : ∃ q, g.init.length = q := ⟨_, rfl⟩
  obtain ⟨p1, hp1⟩ : ∃ p1, l.pre.length = p1 := ⟨_, rfl⟩
  obtain ⟨p2, hp2⟩ : ∃ p2, l.loop.length = p2 := ⟨_, rfl⟩
  obtain ⟨R, hR⟩ : ∃ R, genN g = R := ⟨_, rfl⟩
  obtain ⟨P, hP⟩ : ∃ P, R * (p1 + p2) = P := ⟨_, rfl⟩
  have hlit : littleB g l = decide (P ≤ 600) := by unfold littleB; rw [hR, hp1, hp2, hP]
  have HP := Lib.hid hP
  rw [hlit, hn, hqn, hp1, hp2]
  rw [hp1, hp2] at hb2
  rw [hR] at hb
  rw [hn] at hc2 hbb
  rw [hqn] at hc1
  rw [hp1] at hc3
  rw [hp2] at hc4
  have HN := Lib.hid hn
  have HR := Lib.hid hR
  have HB := Lib.hid hbb
  clear ha hbb hp hq hn hqn hp1 hp2 hR hlit hP
  have hBb : Below w.heap.size w ((w.alloc (.cells #[.int .i64 g.sets, .slice a1 q cap1, .slice a2 n cap2] 25)).alloc (.cells #[.slice a3 p1 cap3, .slice a4 p2 cap4] 28)) := ((Below.refl _ _).alloc (Nat.le_refl _) _).alloc (by simp) _
  have hGh := (Holds.new w 25 #[.int .i64 g.sets, .slice a1 q cap1, .slice a2 n cap2]).alloc (.cells #[.slice a3 p1 cap3, .slice a4 p2 cap4] 28)
  have hWh := Holds.new (w.alloc (.cells #[.int .i64 g.sets, .slice a1 q cap1, .slice a2 n cap2] 25)) 28 #[.slice a3 p1 cap3, .slice a4 p2 cap4]
  have hszA : (w.alloc (.cells #[.int .i64 g.sets, .slice a1 q cap1, .slice a2 n cap2] 25)).heap.size = w.heap.size + 1 := by simp
  rw [hszA] at hWh
  go_enter Tryd.func11, Tryd.ntmps11
  go_wp2
  generalize ((w.alloc (.cells #[.int .i64 g.sets, .slice a1 q cap1, .slice a2 n cap2] 25)).alloc (.cells #[.slice a3 p1 cap3, .slice a4 p2 cap4] 28)) = W at *
  have x2 := hGh.cell 2
  have z0 := hWh.cell 0
  have z1 := hWh.cell 1
  simp only [List.getElem?_cons_zero, List.getElem?_cons_succ] at x2 z0 z1
  have hnb : n ≤ 4000000 := by
    have := HR.out
    unfold genN at this
    rw [HN.out] at this
    omega
  go_loopw [5, 6] (fun m x wr => ∃ (k M : Nat), x = .int .i64 (k : Int) ∧ m = .int .i64 (M : Int) ∧ k ≤ n ∧ Hid (M = n + ((g.states.take k).map List.length).sum) ∧ M ≤ 4000000 ∧ wr = W) (fun _ x _ => (n + 10 - intOf x).toNat)
  case atStart => exact ⟨0, n, rfl, rfl, Nat.zero_le _, (show n = n + _ by simp), hnb, rfl⟩
  case round =>
    obtain ⟨k, M, rfl, rfl, hk, HM, hMb, rfl⟩ := hrel
    by_cases hl : k < n
    · have hl' : (k : Int) < (n : Int) := by omega
      obtain ⟨ms, hmq⟩ : ∃ y, g.states[k]? = some y := ⟨_, List.getElem?_eq_getElem (by rw [HN.out]; exact hl)⟩
      obtain ⟨gb, o, u, rfl, hgb, e1', hu⟩ := HB.out.at (k := k) (by rw [HN.out]; exact hl)
      rw [(List.getElem?_eq_some_iff.1 hmq).2] at hu
      have e1 := (cell_below hBb hgb _).trans e1'
      have hta := take_at hmq
      obtain ⟨a5, cap5, rfl, hc5, hm5⟩ := hu.form
      obtain ⟨p, hp⟩ : ∃ p, ms.length = p := ⟨_, rfl⟩
      rw [hp] at hc5 e1
      have hMn : M + p = n + ((g.states.take (k + 1)).map List.length).sum := by
        rw [hta, HM.out, List.map_append, List.sum_append]; simp [hp]; omega
      have hsum : M + p ≤ 4000000 := by
        have h1 := sum_take_le g.states (k + 1)
        have h2 := HR.out
        unfold genN at h2
        rw [HN.out] at h2
        omega
      have HMN := Lib.hid hMn
      clear hta hMn hp hmq hu e1'
      go_wp2
      exact ⟨⟨k + 1, M + p, rfl, rfl, by omega, HMN, hsum, trivial⟩, by simp [intOf]; omega⟩
    · have hl' : decide ((k : Int) < (n : Int)) = false := decide_eq_false (by omega)
      have hMt : M = R := by
        rw [HM.out, List.take_of_length_le (by rw [HN.out]; omega), ← HR.out]; unfold genN; rw [HN.out]
      subst hMt
      have hP := HP.out
      have hPm : (M : Int) * ((p1 : Int) + (p2 : Int)) = (P : Int) := by rw [← hP]; norm_cast
      have hPb : P ≤ 16000000000000 := by rw [← hP]; exact Nat.mul_le_mul hMb hb2
      have hdec : decide ((P : Int) ≤ 600) = decide (P ≤ 600) := by
        by_cases h : P ≤ 600
        · rw [decide_eq_true h, decide_eq_true (by omega)]
        · rw [decide_eq_false h, decide_eq_false (by omega)]
      clear hP
      go_wp2
      go_ret
      exact ⟨by simp, hBb⟩
end Go.Proofs.YtelanndleinabaaDoor
end
section
/- The walk of often. -/
namespace Go.Proofs.YtelanndleinabaaDoor
open Go.RowKit
set_option linter.unusedVariables false
def oftenA : Alt := ⟨[[1]], [(true, [⟨1, 0, []⟩, ⟨0, 0, [0]⟩]), (false, [⟨1, 0, [1]⟩, ⟨0, 0, [0, 1]⟩])]⟩
theorem rowI_one {w : World} {m : Nat} {xs : List Int} (h : Holds w m 3 (ints xs)) (hb : ∀ x ∈ xs, -9223372036854775808 ≤ x ∧ x ≤ 9223372036854775807) (hl : xs.length ≤ 100) : RowI w.heap.size w (.slice (some ⟨m, 0, none⟩) xs.length xs.length) xs :=
  ⟨⟨some ⟨m, 0, none⟩, xs.length, rfl, Nat.le_refl _, by unfold maxLen; omega, by simp [ints], (fun h => by cases h), fun _ => ⟨m, 0, rfl, h.lt, fun j hj => by rw [Nat.zero_add]; exact h.cell j⟩⟩, hb⟩
theorem rowP_of {w : World} {m : Nat} {ps : List AP} (h : Holds w m 89 (aps ps)) (hl : ps.length ≤ 100) : RowP w.heap.size w (.slice (some ⟨m, 0, none⟩) ps.length ps.length) ps :=
  ⟨some ⟨m, 0, none⟩, ps.length, rfl, Nat.le_refl _, by unfold maxLen; omega, aps_len ps, (fun h => by cases h), fun _ => ⟨m, 0, rfl, h.lt, fun j hj => by rw [Nat.zero_add]; exact h.cell j⟩⟩

set_option maxRecDepth 100000 in
theorem often_alt (W : World) (m : Nat) (h2 : Holds W (m + 1 + 1) 3 [.int .i64 1]) (h3 : Holds W (m + 1 + 1 + 1) 22 [.slice (some ⟨m + 1 + 1, 0, none⟩) 1 1]) (h4 : Holds W (m + 1 + 1 + 1 + 1) 3 [.int .i64 0])
    (h5 : Holds W (m + 1 + 1 + 1 + 1 + 1) 89 [.int .u64 1, .int .u64 0, .slice none 0 0, .int .u64 0, .int .u64 0, .slice (some ⟨m + 1 + 1 + 1 + 1, 0, none⟩) 1 1])
    (h6 : Holds W (m + 1 + 1 + 1 + 1 + 1 + 1) 3 [.int .i64 1]) (h7 : Holds W (m + 1 + 1 + 1 + 1 + 1 + 1 + 1) 3 [.int .i64 0, .int .i64 1])
    (h8 : Holds W (m + 1 + 1 + 1 + 1 + 1 + 1 + 1 + 1) 89 [.int .u64 1, .int .u64 0, .slice (some ⟨m + 1 + 1 + 1 + 1 + 1 + 1, 0, none⟩) 1 1, .int .u64 0, .int .u64 0, .slice (some ⟨m + 1 + 1 + 1 + 1 + 1 + 1 + 1, 0, none⟩) 2 2])
    (h9 : Holds W (m + 1 + 1 + 1 + 1 + 1 + 1 + 1 + 1 + 1) 77 [.bool true, .slice (some ⟨m + 1 + 1 + 1 + 1 + 1, 0, none⟩) 2 2, .bool false, .slice (some ⟨m + 1 + 1 + 1 + 1 + 1 + 1 + 1 + 1, 0, none⟩) 2 2]) :
    AltAt W.heap.size W (.agg #[.slice (some ⟨m + 1 + 1 + 1, 0, none⟩) 1 1, .slice (some ⟨m + 1 + 1 + 1 + 1 + 1 + 1 + 1 + 1 + 1, 0, none⟩) 2 2]) oftenA := by
  have r2 := rowI_one (xs := [1]) h2 (by simp) (by simp)
  have r4 := rowI_one (xs := [0]) h4 (by simp) (by simp)
  have r6 := rowI_one (xs := [1]) h6 (by simp) (by simp)
  have r7 := rowI_one (xs := [0, 1]) h7 (by simp) (by simp)
  have rn : RowI W.heap.size W (.slice none 0 0) [] := ⟨Row.nil _ _ _, by simp⟩
  have p5 := rowP_of (ps := [(⟨1, 0, []⟩, .slice none 0 0), (⟨0, 0, [0]⟩, .slice (some ⟨m + 1 + 1 + 1 + 1, 0, none⟩) 1 1)]) h5 (by simp)
  have p8 := rowP_of (ps := [(⟨1, 0, [1]⟩, .slice (some ⟨m + 1 + 1 + 1 + 1 + 1 + 1, 0, none⟩) 1 1), (⟨0, 0, [0, 1]⟩, .slice (some ⟨m + 1 + 1 + 1 + 1 + 1 + 1 + 1, 0, none⟩) 2 2)]) h8 (by simp)
  have a5 : RowA W.heap.size W (.slice (some ⟨m + 1 + 1 + 1 + 1 + 1, 0, none⟩) 2 2) [⟨1, 0, []⟩, ⟨0, 0, [0]⟩] := ⟨_, rfl, p5, fun p hp => by
    rcases List.mem_cons.1 hp with rfl | hp
    · exact ⟨rn, by simp, by simp⟩
    · rw [List.mem_singleton.1 hp]; exact ⟨r4, by simp, by simp⟩⟩
  have a8 : RowA W.heap.size W (.slice (some ⟨m + 1 + 1 + 1 + 1 + 1 + 1 + 1 + 1, 0, none⟩) 2 2) [⟨1, 0, [1]⟩, ⟨0, 0, [0, 1]⟩] := ⟨_, rfl, p8, fun p hp => by
    rcases List.mem_cons.1 hp with rfl | hp
    · exact ⟨r6, by simp, by simp⟩
    · rw [List.mem_singleton.1 hp]; exact ⟨r7, by simp, by simp⟩⟩
  refine ⟨_, _, rfl, ⟨[.slice (some ⟨m + 1 + 1, 0, none⟩) 1 1], ?_, ?_⟩, ⟨[((true, [⟨1, 0, []⟩, ⟨0, 0, [0]⟩]), .slice (some ⟨m + 1 + 1 + 1 + 1 + 1, 0, none⟩) 2 2), ((false, [⟨1, 0, [1]⟩, ⟨0, 0, [0, 1]⟩]), .slice (some ⟨m + 1 + 1 + 1 + 1 + 1 + 1 + 1 + 1, 0, none⟩) 2 2)], rfl, ?_, ?_⟩⟩
  · exact ⟨_, 1, rfl, Nat.le_refl _, by unfold maxLen; omega, rfl, (fun h => by cases h), fun _ => ⟨_, 0, rfl, h3.lt, fun j hj => by rw [Nat.zero_add]; exact h3.cell j⟩⟩
  · intro i hi
    have : i = 0 := by simp [oftenA] at hi; exact hi
    subst this
    exact ⟨_, rfl, r2⟩
  · exact ⟨_, 2, rfl, Nat.le_refl _, by unfold maxLen; omega, rfl, (fun h => by cases h), fun _ => ⟨_, 0, rfl, h9.lt, fun j hj => by rw [Nat.zero_add]; exact h9.cell j⟩⟩
  · intro s hs
    rcases List.mem_cons.1 hs with rfl | hs
    · exact a5
    · rw [List.mem_singleton.1 hs]; exact a8

def oftenW (w : World) : World :=
  (((((((((w.alloc (.cells #[.slice (some ⟨w.heap.size + 1 + 1 + 1, 0, none⟩) 1 1, .slice (some ⟨w.heap.size + 1 + 1 + 1 + 1 + 1 + 1 + 1 + 1 + 1, 0, none⟩) 2 2] 39)).alloc (.cells #[.int .u64 1, .int .u64 0] 51)).alloc (.cells #[.int .i64 1] 3)).alloc (.cells #[.slice (some ⟨w.heap.size + 1 + 1, 0, none⟩) 1 1] 22)).alloc (.cells #[.int .i64 0] 3)).alloc
    (.cells #[.int .u64 1, .int .u64 0, .slice none 0 0, .int .u64 0, .int .u64 0, .slice (some ⟨w.heap.size + 1 + 1 + 1 + 1, 0, none⟩) 1 1] 89)).alloc (.cells #[.int .i64 1] 3)).alloc (.cells #[.int .i64 0, .int .i64 1] 3)).alloc
    (.cells #[.int .u64 1, .int .u64 0, .slice (some ⟨w.heap.size + 1 + 1 + 1 + 1 + 1 + 1, 0, none⟩) 1 1, .int .u64 0, .int .u64 0, .slice (some ⟨w.heap.size + 1 + 1 + 1 + 1 + 1 + 1 + 1, 0, none⟩) 2 2] 89)).alloc
    (.cells #[.bool true, .slice (some ⟨w.heap.size + 1 + 1 + 1 + 1 + 1, 0, none⟩) 2 2, .bool false, .slice (some ⟨w.heap.size + 1 + 1 + 1 + 1 + 1 + 1 + 1 + 1, 0, none⟩) 2 2] 77)
theorem holds_at {w : World} {k : Nat} (hk : w.heap.size = k) (t : TypeId) (cs : Array Value) : Holds (w.alloc (.cells cs t)) k t cs.toList := by
  subst hk; exact Holds.new w t cs
set_option maxRecDepth 100000 in
theorem often_below (w : World) : Below w.heap.size w (oftenW w) := by
  unfold oftenW
  exact (((((((((((Below.refl _ _).alloc (Nat.le_refl _) _).alloc (by simp) _).alloc (by simp; omega) _).alloc (by simp; omega) _).alloc (by simp; omega) _).alloc (by simp; omega) _).alloc (by simp; omega) _).alloc (by simp; omega) _).alloc (by simp; omega) _).alloc (by simp; omega) _)
set_option maxRecDepth 100000 in
theorem often_w0 (w : World) : Holds (oftenW w) w.heap.size 39 [.slice (some ⟨w.heap.size + 1 + 1 + 1, 0, none⟩) 1 1, .slice (some ⟨w.heap.size + 1 + 1 + 1 + 1 + 1 + 1 + 1 + 1 + 1, 0, none⟩) 2 2] := by
  unfold oftenW
  exact (((((((((Holds.new w 39 _).alloc _).alloc _).alloc _).alloc _).alloc _).alloc _).alloc _).alloc _).alloc _
set_option maxHeartbeats 4000000 in
set_option maxRecDepth 100000 in
theorem often_ws (w : World) : AltAt (oftenW w).heap.size (oftenW w) (.agg #[.slice (some ⟨w.heap.size + 1 + 1 + 1, 0, none⟩) 1 1, .slice (some ⟨w.heap.size + 1 + 1 + 1 + 1 + 1 + 1 + 1 + 1 + 1, 0, none⟩) 2 2]) oftenA := by
  unfold oftenW
  refine often_alt _ w.heap.size ?_ ?_ ?_ ?_ ?_ ?_ ?_ ?_
  · exact (((((((holds_at (by simp) 3 #[.int .i64 1]).alloc _).alloc _).alloc _).alloc _).alloc _).alloc _).alloc _
  · exact ((((((holds_at (by simp) 22 #[.slice (some ⟨w.heap.size + 1 + 1, 0, none⟩) 1 1]).alloc _).alloc _).alloc _).alloc _).alloc _).alloc _
  · exact (((((holds_at (by simp) 3 #[.int .i64 0]).alloc _).alloc _).alloc _).alloc _).alloc _
  · exact ((((holds_at (by simp) 89 _).alloc _).alloc _).alloc _).alloc _
  · exact (((holds_at (by simp) 3 _).alloc _).alloc _).alloc _
  · exact ((holds_at (by simp) 3 _).alloc _).alloc _
  · exact (holds_at (by simp) 89 _).alloc _
  · exact holds_at (by simp) 77 _
set_option maxHeartbeats 4000000 in
set_option maxRecDepth 100000 in
theorem oftenFn (w : World) : Calls Tryd.prog 21 #[] w fun e w' => ∃ v, e = .returned v ∧ AltAt w'.heap.size w' v oftenA ∧ Below w.heap.size w w' := by
  go_enter Tryd.func21, Tryd.ntmps21
  go_wp2
  change bodyPost _ _ _ _ _ (oftenW w)
  have y0 := (often_w0 w).cell 0
  have y1 := (often_w0 w).cell 1
  simp only [List.getElem?_cons_zero, List.getElem?_cons_succ] at y0 y1
  have hA := often_ws w
  have hB := often_below w
  generalize oftenW w = W at *
  exact bodyPost_ret (v := .agg #[.slice (some ⟨w.heap.size + 1 + 1 + 1, 0, none⟩) 1 1, .slice (some ⟨w.heap.size + 1 + 1 + 1 + 1 + 1 + 1 + 1 + 1 + 1, 0, none⟩) 2 2]) (by simp [results, Tryd.f21, go_sem, y0, y1]) rfl ⟨_, rfl, hA, hB⟩
end Go.Proofs.YtelanndleinabaaDoor
end
