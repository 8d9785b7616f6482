/- Systems that tell which processes live, and what each may do: in general; processes side by side are one. -/
import Derived.Test.YtcopoaaofjeklaaAmv
import Derived.Test.YtcopoaaofjeklaaAlv
import Derived.Test.YtcopoaaofjeklaaTok
namespace Go.Proofs.Ytcopoaaofjeklaa.G
open Go.RowKit Go.Maps
set_option linter.unusedVariables false
set_option linter.unusedSimpArgs false

/-- Where the further methods lie. -/
structure Ifs where
  fV : Nat
  fH : Nat
  fE : Nat
structure StatOk (I : Ifc) (J : Ifs) (T : Stat) (w : World) : Prop where
  sys : SysOk I T.sys w
  mV : ∀ w', (method 252 I.tid I.dyn "Live").run Try.prog w' = .ok (J.fV, I.dyn) w'
  mH : ∀ w', (method 252 I.tid I.dyn "Here").run Try.prog w' = .ok (J.fH, I.dyn) w'
  mE : ∀ w', (method 252 I.tid I.dyn "Ever").run Try.prog w' = .ok (J.fE, I.dyn) w'
  eV : ∀ args w', (callFunc J.fV args).run Try.prog w' = .ok (.enter J.fV args) w'
  eH : ∀ args w', (callFunc J.fH args).run Try.prog w' = .ok (.enter J.fH args) w'
  eE : ∀ args w', (callFunc J.fE args).run Try.prog w' = .ok (.enter J.fE args) w'
  llen : ∀ s, s.size ≤ 1048576 → (T.live s).length ≤ 2000000 ∧ ∀ q ∈ T.live s, q < 2000000
  sml : ∀ s p, s.size ≤ 1048576 → SmallF (T.here s p) ∧ SmallF (T.ever s p) ∧ (T.here s p).turns < 18446744073709551616
  live : ∀ w' s, Below w.heap.size w w' → s.size ≤ 1048576 → Calls Try.prog J.fV #[I.dyn, .string s] w' (LivePost (T.live s) w')
  here : ∀ w' s (p : Int), Below w.heap.size w w' → s.size ≤ 1048576 → Calls Try.prog J.fH #[I.dyn, .string s, .int .i64 p] w' (FootP (T.here s p) w')
  ever : ∀ w' s (p : Int), Below w.heap.size w w' → s.size ≤ 1048576 → Calls Try.prog J.fE #[I.dyn, .string s, .int .i64 p] w' (FootP (T.ever s p) w')
theorem StatOk.at {I : Ifc} {J : Ifs} {T : Stat} {w w1 : World} (h : StatOk I J T w) (hb : Below w.heap.size w w1) : StatOk I J T w1 :=
  ⟨h.sys.at hb, h.mV, h.mH, h.mE, h.eV, h.eH, h.eE, h.llen, h.sml, fun w' s hw => h.live w' s (hb.trans (hw.mono hb.size)), fun w' s p hw => h.here w' s p (hb.trans (hw.mono hb.size)), fun w' s p hw => h.ever w' s p (hb.trans (hw.mono hb.size))⟩
/-- An operation that enters a function. -/
theorem op_enter {P : Program} {o : Oper} {f : Nat} {args : Array Value} {a : Act} {w : World} {K : Act → World → Prop} {Q : Exit → Act → World → Prop} {Post : Ending → World → Prop} (h1 : (execOp a.eval o).run P w = .ok (.enter f args) w) (h2 : Calls P f args w Post) (hK : ∀ e w', Post e w' → ∃ v, e = .returned v ∧ K (a.put o.dst v) w') : o.wp P a w K Q := by
  unfold Oper.wp
  rw [h1]
  refine h2.mono fun e w' hq => ?_
  obtain ⟨v, rfl, h4⟩ := hK e w' hq
  exact h4
def tifs : Ifs := ⟨51, 50, 49⟩
theorem tmLive (a b c : Value) (w : World) : (method 252 66 (.agg #[a, b, c]) "Live").run Try.prog w = .ok (51, .agg #[a, b, c]) w := by kernel_rfl
theorem tmHere (a b c : Value) (w : World) : (method 252 66 (.agg #[a, b, c]) "Here").run Try.prog w = .ok (50, .agg #[a, b, c]) w := by kernel_rfl
theorem tmEver (a b c : Value) (w : World) : (method 252 66 (.agg #[a, b, c]) "Ever").run Try.prog w = .ok (49, .agg #[a, b, c]) w := by kernel_rfl
theorem threads_stat {P : Nat → Prop} {w : World} {t : PThr} {a b c : Value} (hv : ThrV P w a b c t) (ht : OkT t) : StatOk (tifc a b c) tifs (tstat t) w := by
  refine ⟨threads_ok hv ht, tmLive a b c, tmHere a b c, tmEver a b c, Go.Proofs.enters_of Try.func51 (by kernel_rfl) rfl, Go.Proofs.enters_of Try.func50 (by kernel_rfl) rfl, Go.Proofs.enters_of Try.func49 (by kernel_rfl) rfl, fun s hs => ?_, fun s p hs => ?_, fun w' s hb hs => ?_, fun w' s p hb hs => ?_, fun w' s p hb hs => ?_⟩
  · show (tlive t s).length ≤ _ ∧ ∀ q ∈ tlive t s, _
    unfold tlive
    split
    · rename_i vs ns e
      obtain ⟨k1, k2, k3, k4, k5⟩ := tstate_of e
      obtain ⟨l16, l8, l60⟩ := ht.len
      refine ⟨by rw [List.length_range]; omega, fun q hq => ?_⟩
      rw [List.mem_range] at hq
      omega
    · exact ⟨Nat.zero_le _, fun q hq => by cases hq⟩
  · exact ⟨(there_big ht s p).small (by omega), (tever_big ht s p).small (by omega), (there_big ht s p).2.2⟩
  · exact liveFn (hv.up (Keep.below hb)) ht hs
  · exact hereAtFn (hv.up (Keep.below hb)) ht hs
  · exact everFn (hv.up (Keep.below hb)) ht hs
end Go.Proofs.Ytcopoaaofjeklaa.G
