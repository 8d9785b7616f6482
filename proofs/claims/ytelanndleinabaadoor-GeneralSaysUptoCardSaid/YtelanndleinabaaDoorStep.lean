/- The walk of general.Accepts's function value steps. -/
import Derived.Test.YtelanndleinabaaDoorGChk
import Derived.Test.YtelanndleinabaaDoorMap
namespace Go.Proofs.YtelanndleinabaaDoor
open Go.RowKit
set_option linter.unusedVariables false

/-- The place behind one. -/
def nextPl (pre size i : Nat) : Nat := if i + 1 = size then pre else i + 1
def stepOf (n nx : Nat) (m : Mv) : Nat × Nat := (nx * n + m.to.toNat, m.sets)
def stepsIn (n nx x : Nat) (ms : List Mv) : List (Nat × Nat) := (ms.filter fun m => hasB m.yes m.no x).map (stepOf n nx)
/-- The steps from a pair. -/
def stepsOf (g : Gen) (l : Las) (p : Nat) : List (Nat × Nat) :=
  stepsIn g.states.length (nextPl l.pre.length (l.pre.length + l.loop.length) (p / g.states.length)) ((l.pre ++ l.loop).getD (p / g.states.length) 0) (g.states.getD (p % g.states.length) [])
def stp (e : Nat × Nat) : List Value := [.int .i64 (e.1 : Int), .int .u64 (e.2 : Int)]
def stps (l : List (Nat × Nat)) : List Value := l.flatMap stp
theorem stps_len (l : List (Nat × Nat)) : (stps l).length = l.length * 2 := by
  induction l with
  | nil => rfl
  | cons e l ih =>
    have : stps (e :: l) = stp e ++ stps l := by simp [stps]
    rw [this, List.length_append, ih, List.length_cons]
    simp [stp]; omega

/-- What steps looks at: blocks below B. -/
structure SEnv (B : Nat) (w : World) (bn bw bl bg : Nat) (g : Gen) (l : Las) : Prop where
  n : bn < B ∧ w.cell? ⟨bn, 0, none⟩ = some (.int .i64 (g.states.length : Int))
  word : bw < B ∧ ∃ v, w.cell? ⟨bw, 0, none⟩ = some v ∧ RowU B w v (l.pre ++ l.loop)
  pre : bl < B ∧ ∃ v, w.cell? ⟨bl, 0, none⟩ = some v ∧ RowU B w v l.pre
  states : bg < B ∧ ∃ v, w.cell? ⟨bg, 2, none⟩ = some v ∧ RowMM B w v g.states
theorem SEnv.below {B bn bw bl bg : Nat} {w w' : World} {g : Gen} {l : Las} (h : SEnv B w bn bw bl bg g l) (hb : Below B w w') : SEnv B w' bn bw bl bg g l := by
  obtain ⟨⟨h1, h2⟩, ⟨h3, v, h4, h5⟩, ⟨h6, u, h7, h8⟩, ⟨h9, t, h10, h11⟩⟩ := h
  exact ⟨⟨h1, (cell_below hb h1 _).trans h2⟩, ⟨h3, v, (cell_below hb h3 _).trans h4, h5.below hb⟩, ⟨h6, u, (cell_below hb h6 _).trans h7, h8.below hb⟩, ⟨h9, t, (cell_below hb h9 _).trans h10, h11.below hb⟩⟩

theorem Tryd.info67 : (Tryd.prog.info? 67).map (fun i => (i.zero, i.size, i.bytes)) = some (some (.agg #[.int .i64 0, .int .u64 0]), 2, 16) := by kernel_rfl

theorem natCast_div (a b : Nat) : Int.tdiv (a : Int) (b : Int) = ((a / b : Nat) : Int) := by
  rw [Int.tdiv_eq_ediv_of_nonneg (by omega)]; norm_cast
theorem natCast_mod (a b : Nat) : Int.tmod (a : Int) (b : Int) = ((a % b : Nat) : Int) := by
  rw [Int.tmod_eq_emod_of_nonneg (by omega)]; norm_cast

/-- A region that only reads up to its tail, the world's draw written as such. -/
theorem region_tail {P : Program} {id : Nat} {Q : Exit → Act → World → Prop} {a : Act} {w : World} {l : List Oper} (n : Nat) (hm : P.follows .mixedOrders = true) (hB : Region.lexTailB .any l.toArray n = true)
    (h : wpStill P l.toArray w.drew (fun a' => wpList P l.toArray Q (l.drop n) a' w.drew) (l.take n) a) : (Code.region id l.toArray true).wp P Q a w := wp_region_still_tail n hm hB h

set_option maxHeartbeats 4000000 in
set_option maxRecDepth 100000 in
theorem stepsFn (B bn bw bl bg p : Nat) (g : Gen) (l : Las) (w : World) (hE : SEnv B w bn bw bl bg g l) (hBw : B ≤ w.heap.size) (hn0 : 0 < g.states.length) (hn1 : g.states.length ≤ 4096) (hsz : l.pre.length + l.loop.length ≤ 8192) (hlo : 0 < l.loop.length)
    (hp : p < (l.pre.length + l.loop.length) * g.states.length) (hms : ∀ ms ∈ g.states, ms.length ≤ 131072 ∧ ∀ m ∈ ms, 0 ≤ m.to ∧ m.to < (g.states.length : Int)) :
    Calls Tryd.prog 26 #[.int .i64 (p : Int), .pointer (some ⟨bn, 0, none⟩), .pointer (some ⟨bw, 0, none⟩), .pointer (some ⟨bl, 0, none⟩), .pointer (some ⟨bg, 0, none⟩)] w fun e w' => ∃ v, e = .returned v ∧ w'.ownsRow w.heap.size 67 2 v (stepsOf g l p).length (stps (stepsOf g l p)) ∧ Below w.heap.size w w' := by
  obtain ⟨⟨b1, c1⟩, ⟨b2, v2, c2, r2⟩, ⟨b3, v3, c3, r3⟩, ⟨b4, v4, c4, r4⟩⟩ := hE
  obtain ⟨aw, capw, rfl, hcw, hmw⟩ := r2.form
  obtain ⟨al, capl, rfl, hcl, hml⟩ := r3.form
  obtain ⟨a4, caps, rfl, hcs, hms'⟩ := r4.form
  obtain ⟨n, hn⟩ : ∃ n, g.states.length = n := ⟨_, rfl⟩
  obtain ⟨L, hL⟩ : ∃ L, (l.pre ++ l.loop).length = L := ⟨_, rfl⟩
  obtain ⟨q, hq⟩ : ∃ q, l.pre.length = q := ⟨_, rfl⟩
  obtain ⟨i, hi⟩ : ∃ i, p / n = i := ⟨_, rfl⟩
  obtain ⟨s, hs⟩ : ∃ s, p % n = s := ⟨_, rfl⟩
  have hL' : l.pre.length + l.loop.length = L := by rw [← hL, List.length_append]
  have hst : stepsOf g l p = stepsIn n (nextPl q L i) ((l.pre ++ l.loop).getD i 0) (g.states.getD s []) := by
    unfold stepsOf
    rw [hn, hL', hq, hi, hs]
  rw [hn] at c1 hcs c4 hn0 hn1 hp hms
  rw [hL] at c2 hcw
  rw [hq] at c3 hcl
  rw [hL'] at hsz hp
  have hiL : i < L := by rw [← hi]; exact Nat.div_lt_of_lt_mul (by rw [Nat.mul_comm]; exact hp)
  have hsn : s < n := by rw [← hs]; exact Nat.mod_lt _ hn0
  have hqL : q < L := by omega
  obtain ⟨ms, hmsq⟩ : ∃ y, g.states[s]? = some y := ⟨_, List.getElem?_eq_getElem (by omega)⟩
  obtain ⟨x, hx⟩ : ∃ y, (l.pre ++ l.loop)[i]? = some y := ⟨_, List.getElem?_eq_getElem (by omega)⟩
  obtain ⟨gw, ow, rfl, hgw, cw⟩ := r2.at (k := i) (by omega)
  obtain ⟨gs, os, us, rfl, hgs, cs, rs⟩ := r4.at (k := s) (by omega)
  rw [(List.getElem?_eq_some_iff.1 hx).2] at cw
  rw [(List.getElem?_eq_some_iff.1 hmsq).2] at rs
  have hx64 := r2.2 x (List.mem_of_getElem? hx)
  obtain ⟨hmsl, hmst⟩ := hms ms (List.mem_of_getElem? hmsq)
  rw [List.getD_eq_getElem?_getD, List.getD_eq_getElem?_getD, hx, hmsq] at hst
  simp only [Option.getD_some] at hst
  rw [hst]
  obtain ⟨am, capm, rfl, hcm, hmm⟩ := rs.form
  obtain ⟨k0, hk0⟩ : ∃ k, ms.length = k := ⟨_, rfl⟩
  rw [hk0] at hcm hmsl cs
  have HRS := Lib.hid rs
  have HK0 := Lib.hid hk0
  have HMT := Lib.hid hmst
  have HQ1 : Int.tdiv (p : Int) (n : Int) = (i : Int) := by rw [natCast_div, hi]
  have HQ2 : Int.tmod (p : Int) (n : Int) = (s : Int) := by rw [natCast_mod, hs]
  have hpb : p < 33554432 := by
    have : L * n ≤ 8192 * 4096 := Nat.mul_le_mul hsz hn1
    omega
  clear hst hn hL hL' hq hi hs hk0 rs r2 r3 r4 hms hmst hx hmsq
  have hnz : ((n : Int) == 0) = false := by simp; omega
  have hi0 : i < 8192 := by omega
  obtain ⟨nx, hnx⟩ : ∃ nx, nextPl q L i = nx := ⟨_, rfl⟩
  rw [hnx]
  have hnxL : nx < L := by rw [← hnx]; unfold nextPl; split <;> omega
  obtain ⟨i0, hi0', hz0, hz1, hz2⟩ := info_parts Tryd.info67
  have main : i + 1 = L ∨ i + 1 ≠ L := by omega
  obtain ⟨QQ, hQQ⟩ : ∃ QQ, nx * n = QQ := ⟨_, rfl⟩
  have hQb : QQ + n ≤ 33558528 := by
    have : nx * n ≤ 8192 * 4096 := Nat.mul_le_mul (by omega) hn1
    omega
  obtain ⟨NX, hNX⟩ : ∃ NX : Int, (nx : Int) = NX := ⟨_, rfl⟩
  have hmul : NX * (n : Int) = (QQ : Int) := by rw [← hNX, ← hQQ]; norm_cast
  have hx1 : nx = if i + 1 = L then q else i + 1 := by rw [← hnx]; rfl
  have HQQ := Lib.hid hQQ
  clear hnx hQQ
  rcases main with hlast | hlast
  · have hl1 : ((i : Int) + 1 == (L : Int)) = true := by simp; omega
    rw [if_pos hlast] at hx1
    subst hx1
    go_enter Tryd.func26, Tryd.ntmps26
    go_wp2
    go_quiet (fail)
    go_wp2
    go_loopw [10, 34] (fun v y wr => ∃ j : Nat, y = .int .i64 (j : Int) ∧ j ≤ k0 ∧ wr.ownsRow w.heap.size 67 2 v (stepsIn n nx x (ms.take j)).length (stps (stepsIn n nx x (ms.take j))) ∧ Below w.heap.size w wr) (fun _ y _ => (k0 + 10 - intOf y).toNat)
    case atStart => exact ⟨0, rfl, Nat.zero_le _, ⟨rfl, .inl ⟨rfl, rfl⟩⟩, below_drewN' (Below.refl _ _) _⟩
    case round =>
      obtain ⟨j, rfl, hj, hown, hB⟩ := hrel
      have e1 := (cell_below hB (Nat.lt_of_lt_of_le b1 hBw) _).trans c1
      have e2 := (cell_below hB (Nat.lt_of_lt_of_le b2 hBw) _).trans c2
      have e3 := (cell_below hB (Nat.lt_of_lt_of_le hgw hBw) _).trans cw
      have hacl : (stepsIn n nx x (ms.take j)).length ≤ j := by
        unfold stepsIn
        rw [List.length_map]
        exact Nat.le_trans (List.length_filter_le _ _) (by rw [List.length_take]; omega)
      by_cases hjl : j < k0
      · have hjl' : (j : Int) < (k0 : Int) := by omega
        obtain ⟨m, hmq⟩ : ∃ m, ms[j]? = some m := ⟨_, List.getElem?_eq_getElem (by rw [HK0.out]; exact hjl)⟩
        have hmk : ms[j]'(by rw [HK0.out]; exact hjl) = m := (List.getElem?_eq_some_iff.1 hmq).2
        have hrs := HRS.out
        rw [HK0.out] at hrs
        obtain ⟨gm, om, rfl, hgm, f0, f1, f2, f3⟩ := ((hrs.mono hBw).below hB).at (k := j) (by rw [HK0.out]; exact hjl)
        rw [hmk] at f0 f1 f2 f3
        obtain ⟨w1, w2, w3, w4⟩ := hrs.2 m (List.mem_of_getElem? hmq)
        obtain ⟨t0, t1⟩ := HMT.out m (List.mem_of_getElem? hmq)
        obtain ⟨T, hT⟩ : ∃ T : Nat, m.to = (T : Int) := ⟨m.to.toNat, by omega⟩
        have hst : stepOf n nx m = (QQ + T, m.sets) := by
          unfold stepOf
          rw [HQQ.out, hT]; rfl
        have hnext : stepsIn n nx x (ms.take (j + 1)) = stepsIn n nx x (ms.take j) ++ (if hasB m.yes m.no x then [(QQ + T, m.sets)] else []) := by
          rw [take_at hmq]
          unfold stepsIn
          rw [List.filter_append, List.map_append]
          congr 1
          by_cases h : hasB m.yes m.no x = true
          · simp [h, hst]
          · simp [h]
        rw [hT] at f2 w3 t0 t1
        have HN := Lib.hid hnext
        have hBm := hB.alloc hB.size (.cells #[.int .u64 (m.yes : Int), .int .u64 (m.no : Int), .int .i64 (T : Int), .int .u64 (m.sets : Int)] 53)
        have hOm := hown.alloc (.cells #[.int .u64 (m.yes : Int), .int .u64 (m.no : Int), .int .i64 (T : Int), .int .u64 (m.sets : Int)] 53)
        have hMm := Holds.new wr 53 #[.int .u64 (m.yes : Int), .int .u64 (m.no : Int), .int .i64 (T : Int), .int .u64 (m.sets : Int)]
        clear hnext hst hmk hrs hmq hown
        go_wp2
        generalize hW : wr.alloc (.cells #[.int .u64 (m.yes : Int), .int .u64 (m.no : Int), .int .i64 (T : Int), .int .u64 (m.sets : Int)] 53) = W at *
        have y0 := hMm.cell 0
        have y1 := hMm.cell 1
        have y2 := hMm.cell 2
        have y3 := hMm.cell 3
        simp at y0 y1 y2 y3
        have g1 := (cell_below hBm (Nat.lt_of_lt_of_le b1 hBw) _).trans c1
        have g2 := (cell_below hBm (Nat.lt_of_lt_of_le b2 hBw) _).trans c2
        have g3 := (cell_below hBm (Nat.lt_of_lt_of_le hgw hBw) _).trans cw
        clear e1 e2 e3
        generalize wr.heap.size = bm at *
        refine region_tail 6 (by kernel_rfl) (by kernel_rfl) ?_
        simp only [List.take_succ_cons, List.take_zero, List.drop_succ_cons, List.drop_zero]
        repeat still_step
        refine wpStill_nil ?_
        go_wp2_with (fail)
        refine (genHas m.yes m.no x hx64 w1 w2 _).mono ?_
        rintro e w5 ⟨rfl, hb5⟩
        have hbW : Below W.heap.size W w5 := (Below.refl _ _).drew.trans hb5
        have hB5 := hBm.trans (hbW.mono hBm.size)
        have hM5 : Holds w5 bm 53 _ := hMm.belowAll hbW
        have hO5 := (Fr.of_below hbW (fun _ => False)).owns hOm (fun _ _ h => h)
        have hms5 := hB5.size
        have hBb : bm < W.heap.size := hMm.lt
        clear hMm hOm y0 y1 y2 y3 g1 g2 g3 hBm hb5 hbW
        by_cases hh : hasB m.yes m.no x = true
        · rw [hh]
          have g1 := (cell_below hB5 (Nat.lt_of_lt_of_le b1 hBw) _).trans c1
          have y2 := hM5.cell 2
          have y3 := hM5.cell 3
          simp at y2 y3
          obtain ⟨E, hE⟩ : ∃ E, QQ + T = E := ⟨_, rfl⟩
          have hE1 : (QQ : Int) + (T : Int) = (E : Int) := by omega
          have hE2 : E < 33558528 := by omega
          have hnx2 : stepsIn n nx x (ms.take (j + 1)) = stepsIn n nx x (ms.take j) ++ [(E, m.sets)] := by
            rw [HN.out, if_pos hh, hE]
          have HN2 := Lib.hid hnx2
          have hq1 : (0 : Int) ≤ (QQ : Int) := by omega
          clear hnx2 hE hh
          generalize stepsIn n nx x (ms.take j) = acc at *
          have hOa := hO5.alloc (.cells #[.int .i64 (E : Int), .int .u64 (m.sets : Int)] 67)
          have hBa := hB5.alloc hB5.size (.cells #[.int .i64 (E : Int), .int .u64 (m.sets : Int)] 67)
          go_wp2_with (at_builtin; refine wpList_append_own_at _ rfl (.tmp 45) (.tmp 55) _ rfl w.heap.size 67 i0 _ 2 16 Tryd.underlying64 hi0' hz0 hz1 hz2 rfl (by omega) u10 acc.length (stps acc) rfl hOa ⟨w5.heap.size, 0, none⟩ 1 1 (stp (E, m.sets)) rfl rfl ?c1 ?c2 ?c3 ?c4 ?c5 ?_)
          case c1 => exact cells_of_new _ _ rfl (stp (E, m.sets)) 67
          case c2 => simp [stp, Value.oneCell']
          case c3 => unfold maxLen; omega
          case c4 => omega
          case c5 => exact hBa.size
          intro v' w6 hown6 hgrow _ _
          have hB6 := below_own hBa hOa hgrow
          go_wp2
          exact ⟨⟨j + 1, rfl, by omega, (by rw [HN2.out, List.length_append]; simpa [stps] using hown6), hB6⟩, by simp [intOf]; omega⟩
        · have hnx2 : stepsIn n nx x (ms.take (j + 1)) = stepsIn n nx x (ms.take j) := by
            rw [HN.out, if_neg hh, List.append_nil]
          have HN2 := Lib.hid hnx2
          rw [eq_false_of_ne_true hh]
          clear hnx2 hh
          go_wp2
          exact ⟨⟨j + 1, rfl, by omega, (by rw [HN2.out]; exact hO5), hB5⟩, by simp [intOf]; omega⟩
      · have hjl' : decide ((j : Int) < (k0 : Int)) = false := decide_eq_false (by omega)
        have hfin : ms.take j = ms := List.take_of_length_le (by rw [HK0.out]; omega)
        go_wp2
        go_ret
        rw [hfin] at hown
        exact ⟨_, rfl, hown, hB⟩
  · have hl1 : ((i : Int) + 1 == (L : Int)) = false := by simp; omega
    rw [if_neg hlast] at hx1
    have hNX' : (i : Int) + 1 = NX := by rw [← hNX, hx1]; norm_cast
    rw [hNX'] at hl1
    clear hx1
    clear hNX
    go_enter Tryd.func26, Tryd.ntmps26
    go_wp2
    go_quiet (fail)
    go_wp2
    go_loopw [10, 34] (fun v y wr => ∃ j : Nat, y = .int .i64 (j : Int) ∧ j ≤ k0 ∧ wr.ownsRow w.heap.size 67 2 v (stepsIn n nx x (ms.take j)).length (stps (stepsIn n nx x (ms.take j))) ∧ Below w.heap.size w wr) (fun _ y _ => (k0 + 10 - intOf y).toNat)
    case atStart => exact ⟨0, rfl, Nat.zero_le _, ⟨rfl, .inl ⟨rfl, rfl⟩⟩, below_drewN' (Below.refl _ _) _⟩
    case round =>
      obtain ⟨j, rfl, hj, hown, hB⟩ := hrel
      have e1 := (cell_below hB (Nat.lt_of_lt_of_le b1 hBw) _).trans c1
      have e2 := (cell_below hB (Nat.lt_of_lt_of_le b2 hBw) _).trans c2
      have e3 := (cell_below hB (Nat.lt_of_lt_of_le hgw hBw) _).trans cw
      have hacl : (stepsIn n nx x (ms.take j)).length ≤ j := by
        unfold stepsIn
        rw [List.length_map]
        exact Nat.le_trans (List.length_filter_le _ _) (by rw [List.length_take]; omega)
      by_cases hjl : j < k0
      · have hjl' : (j : Int) < (k0 : Int) := by omega
        obtain ⟨m, hmq⟩ : ∃ m, ms[j]? = some m := ⟨_, List.getElem?_eq_getElem (by rw [HK0.out]; exact hjl)⟩
        have hmk : ms[j]'(by rw [HK0.out]; exact hjl) = m := (List.getElem?_eq_some_iff.1 hmq).2
        have hrs := HRS.out
        rw [HK0.out] at hrs
        obtain ⟨gm, om, rfl, hgm, f0, f1, f2, f3⟩ := ((hrs.mono hBw).below hB).at (k := j) (by rw [HK0.out]; exact hjl)
        rw [hmk] at f0 f1 f2 f3
        obtain ⟨w1, w2, w3, w4⟩ := hrs.2 m (List.mem_of_getElem? hmq)
        obtain ⟨t0, t1⟩ := HMT.out m (List.mem_of_getElem? hmq)
        obtain ⟨T, hT⟩ : ∃ T : Nat, m.to = (T : Int) := ⟨m.to.toNat, by omega⟩
        have hst : stepOf n nx m = (QQ + T, m.sets) := by
          unfold stepOf
          rw [HQQ.out, hT]; rfl
        have hnext : stepsIn n nx x (ms.take (j + 1)) = stepsIn n nx x (ms.take j) ++ (if hasB m.yes m.no x then [(QQ + T, m.sets)] else []) := by
          rw [take_at hmq]
          unfold stepsIn
          rw [List.filter_append, List.map_append]
          congr 1
          by_cases h : hasB m.yes m.no x = true
          · simp [h, hst]
          · simp [h]
        rw [hT] at f2 w3 t0 t1
        have HN := Lib.hid hnext
        have hBm := hB.alloc hB.size (.cells #[.int .u64 (m.yes : Int), .int .u64 (m.no : Int), .int .i64 (T : Int), .int .u64 (m.sets : Int)] 53)
        have hOm := hown.alloc (.cells #[.int .u64 (m.yes : Int), .int .u64 (m.no : Int), .int .i64 (T : Int), .int .u64 (m.sets : Int)] 53)
        have hMm := Holds.new wr 53 #[.int .u64 (m.yes : Int), .int .u64 (m.no : Int), .int .i64 (T : Int), .int .u64 (m.sets : Int)]
        clear hnext hst hmk hrs hmq hown
        go_wp2
        generalize hW : wr.alloc (.cells #[.int .u64 (m.yes : Int), .int .u64 (m.no : Int), .int .i64 (T : Int), .int .u64 (m.sets : Int)] 53) = W at *
        have y0 := hMm.cell 0
        have y1 := hMm.cell 1
        have y2 := hMm.cell 2
        have y3 := hMm.cell 3
        simp at y0 y1 y2 y3
        have g1 := (cell_below hBm (Nat.lt_of_lt_of_le b1 hBw) _).trans c1
        have g2 := (cell_below hBm (Nat.lt_of_lt_of_le b2 hBw) _).trans c2
        have g3 := (cell_below hBm (Nat.lt_of_lt_of_le hgw hBw) _).trans cw
        clear e1 e2 e3
        generalize wr.heap.size = bm at *
        refine region_tail 6 (by kernel_rfl) (by kernel_rfl) ?_
        simp only [List.take_succ_cons, List.take_zero, List.drop_succ_cons, List.drop_zero]
        repeat still_step
        refine wpStill_nil ?_
        go_wp2_with (fail)
        refine (genHas m.yes m.no x hx64 w1 w2 _).mono ?_
        rintro e w5 ⟨rfl, hb5⟩
        have hbW : Below W.heap.size W w5 := (Below.refl _ _).drew.trans hb5
        have hB5 := hBm.trans (hbW.mono hBm.size)
        have hM5 : Holds w5 bm 53 _ := hMm.belowAll hbW
        have hO5 := (Fr.of_below hbW (fun _ => False)).owns hOm (fun _ _ h => h)
        have hms5 := hB5.size
        have hBb : bm < W.heap.size := hMm.lt
        clear hMm hOm y0 y1 y2 y3 g1 g2 g3 hBm hb5 hbW
        by_cases hh : hasB m.yes m.no x = true
        · rw [hh]
          have g1 := (cell_below hB5 (Nat.lt_of_lt_of_le b1 hBw) _).trans c1
          have y2 := hM5.cell 2
          have y3 := hM5.cell 3
          simp at y2 y3
          obtain ⟨E, hE⟩ : ∃ E, QQ + T = E := ⟨_, rfl⟩
          have hE1 : (QQ : Int) + (T : Int) = (E : Int) := by omega
          have hE2 : E < 33558528 := by omega
          have hnx2 : stepsIn n nx x (ms.take (j + 1)) = stepsIn n nx x (ms.take j) ++ [(E, m.sets)] := by
            rw [HN.out, if_pos hh, hE]
          have HN2 := Lib.hid hnx2
          have hq1 : (0 : Int) ≤ (QQ : Int) := by omega
          clear hnx2 hE hh
          generalize stepsIn n nx x (ms.take j) = acc at *
          have hOa := hO5.alloc (.cells #[.int .i64 (E : Int), .int .u64 (m.sets : Int)] 67)
          have hBa := hB5.alloc hB5.size (.cells #[.int .i64 (E : Int), .int .u64 (m.sets : Int)] 67)
          go_wp2_with (at_builtin; refine wpList_append_own_at _ rfl (.tmp 45) (.tmp 55) _ rfl w.heap.size 67 i0 _ 2 16 Tryd.underlying64 hi0' hz0 hz1 hz2 rfl (by omega) u10 acc.length (stps acc) rfl hOa ⟨w5.heap.size, 0, none⟩ 1 1 (stp (E, m.sets)) rfl rfl ?c1 ?c2 ?c3 ?c4 ?c5 ?_)
          case c1 => exact cells_of_new _ _ rfl (stp (E, m.sets)) 67
          case c2 => simp [stp, Value.oneCell']
          case c3 => unfold maxLen; omega
          case c4 => omega
          case c5 => exact hBa.size
          intro v' w6 hown6 hgrow _ _
          have hB6 := below_own hBa hOa hgrow
          go_wp2
          exact ⟨⟨j + 1, rfl, by omega, (by rw [HN2.out, List.length_append]; simpa [stps] using hown6), hB6⟩, by simp [intOf]; omega⟩
        · have hnx2 : stepsIn n nx x (ms.take (j + 1)) = stepsIn n nx x (ms.take j) := by
            rw [HN.out, if_neg hh, List.append_nil]
          have HN2 := Lib.hid hnx2
          rw [eq_false_of_ne_true hh]
          clear hnx2 hh
          go_wp2
          exact ⟨⟨j + 1, rfl, by omega, (by rw [HN2.out]; exact hO5), hB5⟩, by simp [intOf]; omega⟩
      · have hjl' : decide ((j : Int) < (k0 : Int)) = false := decide_eq_false (by omega)
        have hfin : ms.take j = ms := List.take_of_length_le (by rw [HK0.out]; omega)
        go_wp2
        go_ret
        rw [hfin] at hown
        exact ⟨_, rfl, hown, hB⟩
end Go.Proofs.YtelanndleinabaaDoor
