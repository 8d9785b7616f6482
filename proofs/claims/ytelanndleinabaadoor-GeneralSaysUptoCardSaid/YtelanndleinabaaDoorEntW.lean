/- The walk of enter. -/
import Derived.Test.YtelanndleinabaaDoorEnter
namespace Go.Proofs.YtelanndleinabaaDoor
open Go.RowKit
open Go.Maps (int_keyed keyOf_int_mk)
set_option linter.unusedVariables false

/-- What is asked of an automaton and a word that are gone along. -/
structure Fit2 (g : Gen) (l : Las) (N : Nat) : Prop where
  n0 : 0 < g.states.length
  n1 : g.states.length ≤ 4096
  size : l.pre.length + l.loop.length ≤ 8192
  loop : 0 < l.loop.length
  N : N = (l.pre.length + l.loop.length) * g.states.length
  moves : ∀ ms ∈ g.states, ms.length ≤ 131072 ∧ ∀ m ∈ ms, 0 ≤ m.to ∧ m.to < (g.states.length : Int)
  sets : ∀ ms ∈ g.states, ∀ m ∈ ms, m.sets < 18446744073709551616
theorem Fit2.small {g : Gen} {l : Las} {N : Nat} (h : Fit2 g l N) : N ≤ 33554432 := by
  have := Nat.mul_le_mul h.size h.n1
  rw [h.N]; omega

theorem nextPl_lt {pre size i : Nat} (h : i < size) (hp : pre < size) : nextPl pre size i < size := by
  unfold nextPl; split <;> omega
theorem Fit2.step {g : Gen} {l : Las} {N p : Nat} (h : Fit2 g l N) (hp : p < N) {e : Nat × Nat} (he : e ∈ stepsOf g l p) : e.1 < N ∧ e.2 < 18446744073709551616 := by
  unfold stepsOf stepsIn at he
  obtain ⟨m, hm, rfl⟩ := List.mem_map.1 he
  have hm := (List.mem_filter.1 hm).1
  have hn := h.n0
  have hs : p % g.states.length < g.states.length := Nat.mod_lt _ hn
  rw [List.getD_eq_getElem?_getD, List.getElem?_eq_getElem hs, Option.getD_some] at hm
  have hmem := List.getElem_mem hs
  obtain ⟨t0, t1⟩ := (h.moves _ hmem).2 m hm
  have hlo := h.loop
  have hi : p / g.states.length < l.pre.length + l.loop.length := Nat.div_lt_of_lt_mul (by rw [Nat.mul_comm, ← h.N]; exact hp)
  have hx := nextPl_lt (pre := l.pre.length) hi (by omega)
  refine ⟨?_, h.sets _ hmem m hm⟩
  show nextPl _ _ _ * _ + _ < N
  rw [h.N]
  have : (nextPl l.pre.length (l.pre.length + l.loop.length) (p / g.states.length) + 1) * g.states.length ≤ (l.pre.length + l.loop.length) * g.states.length := Nat.mul_le_mul_right _ hx
  rw [Nat.add_mul, Nat.one_mul] at this
  omega
theorem Fit2.few {g : Gen} {l : Las} {N p : Nat} (h : Fit2 g l N) : (stepsOf g l p).length ≤ 131072 := by
  unfold stepsOf stepsIn
  rw [List.length_map]
  refine Nat.le_trans (List.length_filter_le _ _) ?_
  have hs : p % g.states.length < g.states.length := Nat.mod_lt _ h.n0
  rw [List.getD_eq_getElem?_getD, List.getElem?_eq_getElem hs, Option.getD_some]
  exact (h.moves _ (List.getElem_mem hs)).1
def stepsV (bn bw bl bg : Nat) : Value := .func (.func 26) #[] #[.pointer (some ⟨bn, 0, none⟩), .pointer (some ⟨bw, 0, none⟩), .pointer (some ⟨bl, 0, none⟩), .pointer (some ⟨bg, 0, none⟩)]

theorem Tryd.info3 : (Tryd.prog.info? 3).map (fun i => (i.zero, i.size, i.bytes)) = some (some (.int .i64 0), 1, 8) := by kernel_rfl

set_option maxHeartbeats 4000000 in
set_option maxRecDepth 100000 in
theorem enterFn (β T mi ml mo N S bn bw bl bg x : Nat) (vs : Value) (w : World) (s : TSt) (g : Gen) (l : Las) (hT : TM β T mi ml mo N S (stepsV bn bw bl bg) vs w s) (hE : SEnv β w bn bw bl bg g l) (hF : Fit2 g l N) (hx : x < N) (hxn : s.index x = none) :
    Calls Tryd.prog 40 #[.pointer (some ⟨T, 0, none⟩), .int .i64 (x : Int)] w fun e w' => ∃ v vs', e = .returned (.agg #[.int .i64 (x : Int), v, .int .i64 0]) ∧ w'.ownsRow β 67 2 v (stepsOf g l x).length (stps (stepsOf g l x)) ∧
      TM β T mi ml mo N S (stepsV bn bw bl bg) vs' w' (s.enter x) ∧ Kp w w' ∧ Below β w w' := by
  have hN := hF.small
  have hNN : N < 4611686018427387904 := by omega
  obtain ⟨hM, hPu⟩ := hT
  obtain ⟨b1, b2, b3, b4, m1, m2, m3⟩ := hM.bt
  have hTlt := hM.t.lt
  have HF := Lib.hid hF
  have hcl : cntB s.index N < N := cntB_lt hx hxn
  have HP := Lib.hid (hPu.enter hx hxn)
  have hslen := hPu.slen
  have hcnt : cntB s.index N = s.cnt := hPu.cnt.symm
  rw [hcnt] at hcl
  have hB0 : Below w.heap.size w (w.alloc (.cells #[.int .i64 0, .slice none 0 0, .int .i64 0] 96)) := (Below.refl _ _).alloc (Nat.le_refl _) _
  have hR0 := Holds.new w 96 #[.int .i64 0, .slice none 0 0, .int .i64 0]
  have hM0 := hM.below hB0
  have hβ : β ≤ w.heap.size := Nat.le_trans b1 (Nat.le_of_lt hTlt)
  have hE0 := Lib.hid hE
  have hK0 := Kp.of_below hB0
  have hBb := hB0.mono hβ
  have hRT : w.heap.size ≠ T := by omega
  clear hM hE hF hB0 hxn hPu
  go_enter Tryd.func40, Tryd.ntmps40
  go_wp2
  generalize w.alloc (.cells #[.int .i64 0, .slice none 0 0, .int .i64 0] 96) = W at *
  have c2 := hM0.t.cell 2
  have c3 := hM0.t.cell 3
  simp at c2 c3
  refine region_tail 10 (by kernel_rfl) (by kernel_rfl) ?_
  simp only [List.take_succ_cons, List.take_zero, List.drop_succ_cons, List.drop_zero]
  repeat still_step
  refine still_ilen rfl (.tmp 13) rfl rfl hM0.index ?_
  refine wpStill_nil ?_
  rw [hcnt]
  refine wpList_iput _ rfl (.tmp 8) (.tmp 9) (.tmp 14) rfl rfl hM0.index x s.cnt rfl rfl hx hNN (by omega) ?_
  intro w1 hI1 g1
  have hM1 := hM0.drew.putI (w' := w1) g1 hI1
  have hK1 := hK0.drew.imap g1 hM0.index
  have hWs : w.heap.size ≤ W.heap.size := hK0.size
  have hB1 := hBb.drew.grown g1 (Nat.le_trans hβ hWs) (fun k e => by injection e with e; omega)
  have hR1 : Holds w1 w.heap.size 96 _ := hR0.of_eq (g1.block _ hR0.lt (fun e => hR0.ne_map hM0.index.obj (Option.some.inj e)))
  clear c2 c3 hM0 hK0 hBb hR0 hI1 g1
  have c2 := hM1.t.cell 2
  have c3 := hM1.t.cell 3
  simp at c2 c3
  go_wp2
  refine region_tail 11 (by kernel_rfl) (by kernel_rfl) ?_
  simp only [List.take_succ_cons, List.take_zero, List.drop_succ_cons, List.drop_zero]
  repeat still_step
  refine still_iget rfl (.tmp 23) (.tmp 24) rfl rfl hM1.index x rfl hx hNN s.cnt (by rw [upd_same]; rfl) ?_
  refine wpStill_nil ?_
  refine wpList_iput _ rfl (.tmp 18) (.tmp 19) (.tmp 25) rfl rfl hM1.low x s.cnt rfl rfl hx hNN (by omega) ?_
  intro w2 hI2 g2
  have hM2 := hM1.drew.putL (w' := w2) g2 hI2
  have hK2 := hK1.drew.imap g2 hM1.low
  have hWs1 : w.heap.size ≤ w1.heap.size := hK1.size
  have hB2 := hB1.drew.grown g2 (Nat.le_trans hβ hWs1) (fun k e => by injection e with e; omega)
  have hR2 : Holds w2 w.heap.size 96 _ := hR1.of_eq (g2.block _ hR1.lt (fun e => hR1.ne_map hM1.low.obj (Option.some.inj e)))
  clear c2 c3 hM1 hK1 hB1 hR1 hI2 g2 hWs
  have c4 := hM2.t.cell 4
  simp at c4
  have hkeep : True := trivial
  go_wp2_with (at_mapUpdate; refine wpList_bput _ rfl (.tmp 29) (.tmp 30) (.const (.bool true)) rfl rfl hM2.on x rfl rfl hx hNN ?_)
  intro w3 hI3 g3
  have hM3 := hM2.putO (w' := w3) g3 hI3
  have hK3 := hK2.bmap g3 hM2.on
  have hWs2 : w.heap.size ≤ w2.heap.size := hK2.size
  have hB3 := hB2.grown g3 (Nat.le_trans hβ hWs2) (fun k e => by injection e with e; omega)
  have hR3 : Holds w3 w.heap.size 96 _ := hR2.of_eq (g3.block _ hR2.lt (fun e => hR2.ne_map hM2.on.obj (Option.some.inj e)))
  clear c4 hM2 hK2 hB2 hR2 hI3 g3 hWs1 hWs2
  have c5 := hM3.t.cell 5
  have c0 := hM3.t.cell 0
  simp at c5 c0
  have hWs3 : w.heap.size ≤ w3.heap.size := hK3.size
  have hA3 := hM3.below ((Below.refl _ _).alloc (Nat.le_refl _) (.cells #[.int .i64 (x : Int)] 3))
  have hKA := hK3.alloc (.cells #[.int .i64 (x : Int)] 3)
  have hBA := hB3.alloc (Nat.le_trans hβ hWs3) (.cells #[.int .i64 (x : Int)] 3)
  have hRA := hR3.alloc (.cells #[.int .i64 (x : Int)] 3)
  obtain ⟨i0, hi0, hz0, hz1, hz2⟩ := info_parts Tryd.info3
  have hsl : s.stack.reverse.length ≤ N := by rw [List.length_reverse]; omega
  go_wp2_with (at_builtin; refine wpList_append_own_at _ rfl (.tmp 35) (.tmp 37) _ rfl β 3 i0 _ 1 8 Tryd.underlying22 hi0 hz0 hz1 hz2 rfl (by omega) vs s.stack.reverse.length (nats s.stack.reverse) rfl hA3.stack ⟨w3.heap.size, 0, none⟩ 1 1 [.int .i64 (x : Int)] rfl rfl ?c1 ?c2 ?c3 ?c4 ?c5 ?_)
  case c1 => exact cells_of_new _ _ rfl [.int .i64 (x : Int)] 3
  case c2 => simp [Value.oneCell']
  case c3 => unfold maxLen; omega
  case c4 => omega
  case c5 => exact Nat.le_trans (Nat.le_trans hβ hWs3) (by simp)
  intro vs' w4 hS4 g4 _ _
  obtain ⟨a5, cap5, hv5, q1, q2⟩ := owns_form hS4
  obtain ⟨k5, hk5⟩ : ∃ k, s.stack.reverse.length + 1 = k := ⟨_, rfl⟩
  simp only [List.length_reverse] at hk5 hv5
  rw [hk5] at hv5
  subst hv5
  have hS4' : w4.ownsRow β 3 1 (.slice a5 k5 cap5) (s.stack.reverse ++ [x]).length (nats (s.stack.reverse ++ [x])) := by
    rw [← nats_snoc, List.length_append]; simpa using hS4
  have hM4 := hA3.putS g4 hS4'
  have hK4 := hKA.trans (hA3.kp_S (vs' := .slice a5 k5 cap5) g4)
  have hsB : ∀ k, vs.ownBlock = some k → β ≤ k := fun k e => (hA3.stack.lt k e).1
  have hB4 := (hBA.grown g4 (Nat.le_trans (Nat.le_trans hβ hWs3) (by simp)) hsB).setCell (p := ⟨T, 5, none⟩) b1 (.slice a5 k5 cap5)
  have hR4 := (own_kept hA3.stack g4 hRA (by decide)).far (p := ⟨T, 5, none⟩) hRT (.slice a5 k5 cap5)
  have hT4 := hA3.t.of_eq (g4.block _ hA3.t.lt (fun e => owns_ne_holds hA3.stack hA3.t (by decide) e.symm))
  have d5 := hT4.cell 5
  have z5 := hT4.free 5
  simp at d5
  clear c5 c0 hM3 hK3 hB3 hR3 hA3 hKA hBA hRA hS4 hS4' g4 hsB hT4 hWs3
  have c0 := hM4.t.cell 0
  simp at c0
  unfold stepsV at c0
  go_wp2_with (fail)
  have hWs4 : w.heap.size ≤ (w4.setCell ⟨T, 5, none⟩ (.slice a5 k5 cap5)).heap.size := hK4.size
  refine (stepsFn β bn bw bl bg x g l _ (hE0.out.below hB4) (Nat.le_trans hβ hWs4) HF.out.n0 HF.out.n1 HF.out.size HF.out.loop (by rw [← HF.out.N]; exact hx) HF.out.moves).mono ?_
  rintro e w5 ⟨v, rfl, hown, hb5⟩
  have hM5 := hM4.below hb5
  have hR5 := hR4.belowAll hb5
  have hK5 := hK4.trans (Kp.of_below hb5)
  have hB5 := hB4.trans (hb5.mono (Nat.le_trans hβ hWs4))
  clear hM4 hR4 hK4 hB4 hb5 c0 d5 z5
  obtain ⟨av, cv, rfl, hcv1, hcv2⟩ := owns_form hown
  have x0 := hR5.cell 0
  have x1 := hR5.cell 1
  have x2 := hR5.cell 2
  have f0 := hR5.free 0
  have f1 := hR5.free 1
  have f2 := hR5.free 2
  simp at x0 x1 x2
  go_wp2
  have hR6 := ((hR5.put 0 (.int .i64 (x : Int))).put 1 (.slice av (stepsOf g l x).length cv)).put 2 (.int .i64 0)
  have hM6 := ((hM5.far hR5 (by decide) (by decide) 0 (.int .i64 (x : Int))).far (hR5.put 0 (.int .i64 (x : Int))) (by decide) (by decide) 1 (.slice av (stepsOf g l x).length cv)).far ((hR5.put 0 (.int .i64 (x : Int))).put 1 (.slice av (stepsOf g l x).length cv)) (by decide) (by decide) 2 (.int .i64 0)
  have hO6 := own_put (i := 2) (u := .int .i64 0) (own_put (i := 1) (u := .slice av (stepsOf g l x).length cv) (own_put (i := 0) (u := .int .i64 (x : Int)) hown hR5 (by decide)) (hR5.put 0 (.int .i64 (x : Int))) (by decide)) ((hR5.put 0 (.int .i64 (x : Int))).put 1 (.slice av (stepsOf g l x).length cv)) (by decide)
  have hK6 := ((hK5.putNew (p := ⟨w.heap.size, 0, none⟩) (Nat.le_refl _) (.int .i64 (x : Int))).putNew (p := ⟨w.heap.size, 1, none⟩) (Nat.le_refl _) (.slice av (stepsOf g l x).length cv)).putNew (p := ⟨w.heap.size, 2, none⟩) (Nat.le_refl _) (.int .i64 0)
  have hB6 := ((hB5.setCell (p := ⟨w.heap.size, 0, none⟩) hβ (.int .i64 (x : Int))).setCell (p := ⟨w.heap.size, 1, none⟩) hβ (.slice av (stepsOf g l x).length cv)).setCell (p := ⟨w.heap.size, 2, none⟩) hβ (.int .i64 0)
  have y0 := hR6.cell 0
  have y1 := hR6.cell 1
  have y2 := hR6.cell 2
  simp only [List.set_cons_zero, List.set_cons_succ, List.getElem?_cons_zero, List.getElem?_cons_succ] at y0 y1 y2
  refine bodyPost_ret (v := .agg #[.int .i64 (x : Int), .slice av (stepsOf g l x).length cv, .int .i64 0]) (by simp [results, Tryd.f40, go_sem, y0, y1, y2]) rfl ⟨_, .slice a5 k5 cap5, rfl, own_mono hO6 (Nat.le_trans hβ hWs4), ⟨?_, HP.out⟩, hK6, hB6⟩
  have e1 : (s.enter x).index = upd s.index x (some s.cnt) := rfl
  have e2 : (s.enter x).stack.reverse = s.stack.reverse ++ [x] := by simp [TSt.enter]
  rw [e1, e2, lowF_enter, onF_enter]
  exact hM6
end Go.Proofs.YtelanndleinabaaDoor
