/- The statements' explore at any system: what lies in memory. -/
import Derived.Test.YtpednhcfkjjcpaaGal
namespace Go.Proofs.Ytpednhcfkjjcpaa.G
open Go.RowKit Go.Maps
set_option linter.unusedVariables false
set_option linter.unusedSimpArgs false

/-- A move, its rows wherever P says. -/
def MovF (P : Nat → Prop) (w : World) (a : PMove) (c : List Value) : Prop := ∃ vr vw, c = mvC a vr vw ∧ RowL P w 1 vr a.reads.length (a.reads.map intV) ∧ RowL P w 1 vw a.writes.length (a.writes.map intV)
theorem MovF.mono {P Q : Nat → Prop} {w : World} (hl : Wide P Q w) {a : PMove} {c : List Value} (h : MovF P w a c) : MovF Q w a c := by
  obtain ⟨vr, vw, h1, h2, h3⟩ := h
  exact ⟨vr, vw, h1, h2.mono hl, h3.mono hl⟩
theorem oneMov : One MovF 9 := ⟨fun ⟨vr, vw, h, _⟩ => by rw [h]; rfl, fun ⟨vr, vw, h, h2, h3⟩ => by
  rw [h]; simp [mvC, h2.cell1, h3.cell1]; simp [Value.oneCell'], fun hu ⟨vr, vw, h1, h2, h3⟩ => ⟨vr, vw, h1, h2.up hu, h3.up hu⟩⟩
theorem MovG.movF {P : Nat → Prop} {w : World} {a : PMove} {c : List Value} (h : MovG P w a c) : MovF P w a c := by
  obtain ⟨vr, vw, h1, ⟨h2, _⟩, h3, _⟩ := h
  exact ⟨vr, vw, h1, h2, h3⟩
structure ExL (base : Nat) (P : Nat → Prop) (b4 b9 m : Nat) (w0 W : World) (st : List ByteArray) (out : PNet) (vs vo : Value) : Prop where
  ne : b4 < b9
  ge : base ≤ b4 ∧ base ≤ b9 ∧ base ≤ m
  below : Below base w0 W
  r4 : Holds W b4 24 [.slice none 0 0]
  row : W.ownsRow base 9 1 vs st.length (st.map fun m => .string m)
  num : NumV 1 W m st.length st
  outs : Holds W b9 24 [vo]
  nodes : ∃ fo, W.ownsRow base 81 5 vo out.length fo ∧ LsF NodeF P W out fo
  far : ∀ k, P k → base ≤ k ∧ k ≠ b4 ∧ k ≠ b9 ∧ k ≠ m ∧ vs.ownBlock ≠ some k ∧ vo.ownBlock ≠ some k
theorem ExL.fr {F : Nat → Prop} {base b4 b9 m : Nat} {P : Nat → Prop} {w0 W W' : World} {st : List ByteArray} {out : PNet} {vs vo : Value} (h : ExL base P b4 b9 m w0 W st out vs vo) (hf : Fr F W W')
    (hF : ∀ k, F k → base ≤ k ∧ k ≠ b4 ∧ k ≠ b9 ∧ k ≠ m ∧ vs.ownBlock ≠ some k ∧ vo.ownBlock ≠ some k ∧ ¬ P k) : ExL base P b4 b9 m w0 W' st out vs vo := by
  obtain ⟨fo, h1, h2⟩ := h.nodes
  have hsz : base ≤ W.heap.size := by have := h.r4.lt; have := h.ge; omega
  exact ⟨h.ne, h.ge, h.below.trans (hf.to_below hsz fun k hk hFk => by have := (hF k hFk).1; omega), hf.holds h.r4 fun e => (hF _ e).2.1 rfl, hf.owns h.row fun g hg e => (hF g e).2.2.2.2.1 hg, h.num.of_eq (hf.block _ h.num.lt fun e => (hF _ e).2.2.2.1 rfl), hf.holds h.outs fun e => (hF _ e).2.2.1 rfl,
    ⟨fo, hf.owns h1 fun g hg e => (hF g e).2.2.2.2.2.1 hg, LsF.up (fun _ _ => oneNode.up fun k hk hs => hf.block k hs fun e => (hF k e).2.2.2.2.2.2 hk) _ h2⟩, h.far⟩
structure RndL (base lo b13 X : Nat) (P : Nat → Prop) (b4 b9 m : Nat) (w0 : World) (st : List ByteArray) (out : PNet) (x : PNode) (bs : List PArc) (vs vo va : Value) (ms : List PMove) (vl : Value) (ls : List PArc) (cl : List Value) (W : World) : Prop where
  ex : ExL base P b4 b9 m w0 W st out vs vo
  node : Holds W b13 81 (nodeC va x)
  row : ∃ fa, W.ownsRow lo 86 6 va bs.length fa ∧ LsF ArcF (PA lo X vs va) W bs fa
  mrow : ∃ fm, W.ownsRow lo 75 9 vl ms.length fm ∧ LsF MovF (PA lo X vs va) W ms fm
  loose : LsF ArcF (PA lo X vs va) W ls cl
  far : ∀ k, P k → k < b13
  hvo : ∀ g, vo.ownBlock = some g → g < b13
  lts : b4 < b13 ∧ b9 < b13 ∧ m < b13
  ge : base ≤ b13 ∧ b13 < lo ∧ lo ≤ W.heap.size
section
variable {base lo b13 X b4 b9 m : Nat} {P : Nat → Prop} {w0 W W' : World} {st : List ByteArray} {out : PNet} {x : PNode} {bs : List PArc} {vs vo va vl : Value} {ms : List PMove} {ls : List PArc} {cl : List Value}
theorem RndL.vs13 (h : RndL base lo b13 X P b4 b9 m w0 st out x bs vs vo va ms vl ls cl W) : vs.ownBlock ≠ some b13 := owns_ne_holds h.ex.row h.node (by decide)
theorem RndL.exfr (h : RndL base lo b13 X P b4 b9 m w0 st out x bs vs vo va ms vl ls cl W) {F : Nat → Prop} (hf : Fr F W W') (hF : ∀ k, F k → b13 ≤ k ∧ vs.ownBlock ≠ some k) : ExL base P b4 b9 m w0 W' st out vs vo := by
  obtain ⟨l4, l9, lm⟩ := h.lts
  have hg := h.ge
  refine h.ex.fr hf fun k hk => ?_
  obtain ⟨h1, h2⟩ := hF k hk
  exact ⟨by omega, by omega, by omega, by omega, h2, fun e => by have := h.hvo k e; omega, fun e => by have := h.far k e; omega⟩
/-- Where nothing is turned but blocks that are none of the rows'. -/
theorem RndL.still (h : RndL base lo b13 X P b4 b9 m w0 st out x bs vs vo va ms vl ls cl W) {F : Nat → Prop} (hf : Fr F W W') (hF : ∀ k, F k → lo ≤ k ∧ k = X ∧ vs.ownBlock ≠ some k ∧ va.ownBlock ≠ some k ∧ vl.ownBlock ≠ some k) : RndL base lo b13 X P b4 b9 m w0 st out x bs vs vo va ms vl ls cl W' := by
  obtain ⟨fa, h1, h2⟩ := h.row
  obtain ⟨fm, h3, h4⟩ := h.mrow
  have hg := h.ge
  have hup : ∀ k, PA lo X vs va k → ¬ F k := fun k hk hFk => hk.2.1 (hF k hFk).2.1
  exact ⟨h.exfr hf fun k hk => ⟨by have := (hF k hk).1; omega, (hF k hk).2.2.1⟩, hf.holds h.node fun e => by have := (hF _ e).1; omega,
    ⟨fa, hf.owns h1 fun g hg e => (hF g e).2.2.2.1 hg, LsF.up (fun _ _ => oneArc.up fun k hk hs => hf.block k hs (hup k hk)) _ h2⟩,
    ⟨fm, hf.owns h3 fun g hg e => (hF g e).2.2.2.2 hg, LsF.up (fun _ _ => oneMov.up fun k hk hs => hf.block k hs (hup k hk)) _ h4⟩,
    LsF.up (fun _ _ => oneArc.up fun k hk hs => hf.block k hs (hup k hk)) _ h.loose, h.far, h.hvo, h.lts, h.ge.1, h.ge.2.1, Nat.le_trans h.ge.2.2 hf.size⟩
theorem RndL.fresh (h : RndL base lo b13 X P b4 b9 m w0 st out x bs vs vo va ms vl ls cl W) (hb : Below W.heap.size W W') : RndL base lo b13 X P b4 b9 m w0 st out x bs vs vo va ms vl ls cl W' :=
  h.still (Fr.of_below hb (fun _ => False)) fun _ h => h.elim
theorem RndL.arm (h : RndL base lo b13 X P b4 b9 m w0 st out x bs vs vo va ms vl ls cl W) {Y : Nat} (hY : W.heap.size ≤ Y ∨ Y < lo) : RndL base lo b13 Y P b4 b9 m w0 st out x bs vs vo va ms vl ls cl W := by
  obtain ⟨fa, h1, h2⟩ := h.row
  obtain ⟨fm, h3, h4⟩ := h.mrow
  have hw : Wide (PA lo X vs va) (PA lo Y vs va) W := fun k hk hs => ⟨hk.1, by have := hk.1; omega, hk.2.2⟩
  exact ⟨h.ex, h.node, ⟨fa, h1, LsF.mono (fun _ _ => ArcF.mono hw) _ h2⟩, ⟨fm, h3, LsF.mono (fun _ _ => MovF.mono hw) _ h4⟩, LsF.mono (fun _ _ => ArcF.mono hw) _ h.loose, h.far, h.hvo, h.lts, h.ge⟩
theorem RndL.drop (h : RndL base lo b13 X P b4 b9 m w0 st out x bs vs vo va ms vl ls cl W) : RndL base lo b13 X P b4 b9 m w0 st out x bs vs vo va ms vl [] [] W :=
  ⟨h.ex, h.node, h.row, h.mrow, rfl, h.far, h.hvo, h.lts, h.ge⟩
/-- A move's rows are an arc's. -/
theorem RndL.take (h : RndL base lo b13 X P b4 b9 m w0 st out x bs vs vo va ms vl [] [] W) {a : PMove} {vr vw : Value} (hm : MovF (PA lo X vs va) W a (mvC a vr vw)) (t : Int) : RndL base lo b13 X P b4 b9 m w0 st out x bs vs vo va ms vl [a.goes t] (arcC (a.goes t) vr vw) W := by
  obtain ⟨vr2, vw2, q1, q2, q3⟩ := hm
  simp only [mvC, List.cons.injEq, true_and, and_true] at q1
  obtain ⟨rfl, rfl⟩ := q1
  exact ⟨h.ex, h.node, h.row, h.mrow, LsF.sing ⟨vr, vw, rfl, q2, q3⟩, h.far, h.hvo, h.lts, h.ge⟩
theorem RndL.loosen {b : PArc} {vr vw : Value} (h : RndL base lo b13 X P b4 b9 m w0 st out x bs vs vo va ms vl [b] (arcC b vr vw) W) (c : Int) : RndL base lo b13 X P b4 b9 m w0 st out x bs vs vo va ms vl [b.goes c] (arcC (b.goes c) vr vw) W := by
  obtain ⟨vr2, vw2, h1, h2, h3⟩ := h.loose.arc1
  simp only [arcC, List.cons.injEq, true_and, and_true] at h1
  obtain ⟨rfl, rfl⟩ := h1
  exact ⟨h.ex, h.node, h.row, h.mrow, LsF.sing ⟨vr, vw, rfl, h2, h3⟩, h.far, h.hvo, h.lts, h.ge⟩
/-- A state more: the states' row has grown, the map too. -/
theorem RndL.grow (h : RndL base lo b13 X P b4 b9 m w0 st out x bs vs vo va ms vl ls cl W) {k : ByteArray} {W4 W5 : World} {o : Obj} {vs' : Value}
    (hown : W4.ownsRow base 9 1 vs' (st.length + 1) ((st.map fun m => .string m) ++ [.string k])) (hgr : (W.alloc o).grownBy W4 vs.ownBlock) (hblk : vs'.ownBlock = vs.ownBlock ∨ vs'.ownBlock = some (W.alloc o).heap.size)
    (hn : NumV 1 W5 m (st.length + 1) (st ++ [k])) (hg5 : W4.grownBy W5 (some m)) :
    RndL base lo b13 X P b4 b9 m w0 (st ++ [k]) out x bs vs' vo va ms vl ls cl W5 ∧ Fr (fun q => q = m ∨ vs.ownBlock = some q) W W5 := by
  have e := h.ex
  obtain ⟨fa, h1, h2⟩ := h.row
  obtain ⟨fm, h3, h4⟩ := h.mrow
  obtain ⟨fo, n1, n2⟩ := e.nodes
  obtain ⟨l4, l9, lm⟩ := h.lts
  have hg := h.ge
  have hge := e.ge
  have hs2 : W.heap.size ≤ (W.alloc o).heap.size := by simp
  have hf4 : Fr (fun q => vs.ownBlock = some q) W W4 := ((Fr.refl _ W).alloc o).grown hgr fun q hq _ => hq
  have hf5 : Fr (fun q => q = m) W4 W5 := (Fr.refl _ W4).grown hg5 fun q hq _ => by injection hq with hq; exact hq.symm
  have hf : Fr (fun q => q = m ∨ vs.ownBlock = some q) W W5 := (hf4.mono fun _ _ h => .inr h).trans hf5 fun q _ hq => .inl hq
  have hv : vs'.ownBlock = vs.ownBlock ∨ ∃ g, vs'.ownBlock = some g ∧ W.heap.size ≤ g := hblk.imp id fun hb => ⟨_, hb, hs2⟩
  have hm4 : NumV 1 W4 m st.length st := (e.num.alloc o).of_eq (hgr.block _ (e.num.alloc o).lt fun he => by
    obtain ⟨cs, hh⟩ := owns_holds e.row he.symm
    exact e.num.ne hh rfl)
  have hso : ∀ g, vs.ownBlock = some g → base ≤ g := owns_ge e.row
  have no : ∀ {g : Nat}, g ≠ m → vs.ownBlock ≠ some g → ¬ (g = m ∨ vs.ownBlock = some g) := fun a c hh => hh.elim a c
  have nh : ∀ {g : Nat} {t : TypeId} {cs : List Value}, Holds W g t cs → t ≠ 9 → ¬ (g = m ∨ vs.ownBlock = some g) := fun hh ht => no (Ne.symm (e.num.ne hh)) (owns_ne_holds e.row hh (Ne.symm ht))
  have hPA : ∀ k, PA lo X vs va k → ¬ (k = m ∨ vs.ownBlock = some k) := fun k hk => no (by have := hk.1; omega) hk.2.2.1
  have hwd : Wide (fun k => PA lo X vs va k ∧ k < W.heap.size) (PA lo X vs' va) W5 := fun k hk _ => ⟨hk.1.1, hk.1.2.1, by
    rcases hv with hv | ⟨g, hv, hg⟩
    · rw [hv]; exact hk.1.2.2.1
    · rw [hv]; intro he; injection he with he; have := hk.2; omega, hk.1.2.2.2⟩
  have hupA : ∀ (l : List PArc) (f : List Value), LsF ArcF (PA lo X vs va) W l f → LsF ArcF (PA lo X vs' va) W5 l f := fun l f q =>
    LsF.mono (fun _ _ => ArcF.mono hwd) _ (LsF.up (w' := W5) (fun _ _ => oneArc.up fun k hk hs => hf.block k hs (hPA k hk.1)) _ (LsF.mono (fun _ _ => ArcF.mono (Wide.in_ (w := W))) _ q))
  have hupM : ∀ (l : List PMove) (f : List Value), LsF MovF (PA lo X vs va) W l f → LsF MovF (PA lo X vs' va) W5 l f := fun l f q =>
    LsF.mono (fun _ _ => MovF.mono hwd) _ (LsF.up (w' := W5) (fun _ _ => oneMov.up fun k hk hs => hf.block k hs (hPA k hk.1)) _ (LsF.mono (fun _ _ => MovF.mono (Wide.in_ (w := W))) _ q))
  have hfar : ∀ k, P k → base ≤ k ∧ k ≠ b4 ∧ k ≠ b9 ∧ k ≠ m ∧ vs'.ownBlock ≠ some k ∧ vo.ownBlock ≠ some k := fun k hk => by
    obtain ⟨f1, f2, f3, f4, f5, f6⟩ := e.far k hk
    refine ⟨f1, f2, f3, f4, ?_, f6⟩
    rcases hv with hv | ⟨g, hv, hg⟩
    · rw [hv]; exact f5
    · rw [hv]; intro he; injection he with he; have := h.far k hk; omega
  have hro : W5.ownsRow base 9 1 vs' (st ++ [k]).length ((st ++ [k]).map fun m => .string m) := by
    rw [List.length_append, List.map_append]
    exact hf5.owns hown fun g hg he => by
      obtain ⟨cs, hh⟩ := owns_holds hown hg
      exact hm4.ne hh he.symm
  refine ⟨⟨⟨e.ne, e.ge, e.below.trans (hf.to_below (by omega) fun k hk hF => ?_), hf.holds e.r4 (nh e.r4 (by decide)), hro, by rw [List.length_append]; exact hn, hf.holds e.outs (nh e.outs (by decide)), ⟨fo, hf.owns n1 fun g hg => ?_, LsF.up (fun _ _ => oneNode.up fun k hk hs => hf.block k hs (no (e.far k hk).2.2.2.1 (e.far k hk).2.2.2.2.1)) _ n2⟩, hfar⟩,
    hf.holds h.node (nh h.node (by decide)), ⟨fa, hf.owns h1 fun g hg => ?_, hupA _ _ h2⟩, ⟨fm, hf.owns h3 fun g hg => ?_, hupM _ _ h4⟩, hupA _ _ h.loose, h.far, h.hvo, h.lts, h.ge.1, h.ge.2.1, Nat.le_trans h.ge.2.2 hf.size⟩, hf⟩
  · rcases hF with rfl | hF
    · omega
    · have := hso k hF; omega
  · obtain ⟨cs, hh⟩ := owns_holds n1 hg
    exact nh hh (by decide)
  · obtain ⟨cs, hh⟩ := owns_holds h1 hg
    exact nh hh (by decide)
  · obtain ⟨cs, hh⟩ := owns_holds h3 hg
    exact nh hh (by decide)
/-- A move of the row. -/
theorem RndL.mov (h : RndL base lo b13 X P b4 b9 m w0 st out x bs vs vo va ms vl ls cl W) {j : Nat} (hj : j < ms.length) : ∃ g o cap a1 n1 k1 a2 n2 k2, vl = .slice (some ⟨g, o, none⟩) ms.length cap ∧ MovF (PA lo X vs va) W ms[j] (mvC ms[j] (.slice a1 n1 k1) (.slice a2 n2 k2)) ∧ W.rangeAt g (o + j * 9) (mvC ms[j] (.slice a1 n1 k1) (.slice a2 n2 k2)) := by
  obtain ⟨fm, h1, h2⟩ := h.mrow
  have hr : RowL (fun _ => True) W 9 vl ms.length fm := RowL.of_owns2 h1 fun _ _ => trivial
  obtain ⟨a, cap, e1, k2, k3, k4, k5, k6⟩ := hr
  obtain ⟨g, o, cs, t, q1, q2, q3, q4⟩ := k6 (by omega)
  subst q1
  obtain ⟨c, hG, hc⟩ := LsF.at (fun a c => oneMov.len) hj h2
  have hlen := oneMov.len hG
  obtain ⟨vr, vw, rfl, p1, p2⟩ := hG
  obtain ⟨a1, c1, rfl, _⟩ := p1.form
  obtain ⟨a2, c2, rfl, _⟩ := p2.form
  refine ⟨g, o, cap, a1, _, c1, a2, _, c2, e1, ⟨_, _, rfl, p1, p2⟩, fun i u hi => ?_⟩
  have hi2 : i < 9 := by have := (List.getElem?_eq_some_iff.1 hi).1; omega
  have hm : j * 9 + i < ms.length * 9 := by omega
  rw [q3.cell, Nat.add_assoc, q4 _ hm, hc i hi2]
  exact hi
/-- An arc more. -/
theorem RndL.done {b : PArc} {c : List Value} {va' : Value} {fa : List Value} {W4 W5 : World} {o : Obj} (h : RndL base lo b13 X P b4 b9 m w0 st out x bs vs vo va ms vl [b] c W) (hfa : LsF ArcF (PA lo X vs va) W bs fa)
    (hown : W4.ownsRow lo 86 6 va' (bs.length + 1) (fa ++ c)) (hgr : (W.alloc o).grownBy W4 va.ownBlock) (hblk : va'.ownBlock = va.ownBlock ∨ va'.ownBlock = some (W.alloc o).heap.size) (hW5 : W5 = setR W4 b13 0 [va']) :
    RndL base lo b13 X P b4 b9 m w0 st out x (bs ++ [b]) vs vo va' ms vl [] [] W5 := by
  obtain ⟨fa0, h1, h2⟩ := h.row
  obtain ⟨fm, h3, h4'⟩ := h.mrow
  have hg := h.ge
  have hge := owns_ge h1
  have hs2 : W.heap.size ≤ (W.alloc o).heap.size := by simp
  have hf4 : Fr (fun q => q = b13 ∨ va.ownBlock = some q) W W4 := ((Fr.refl _ W).alloc o).grown hgr fun q hq _ => .inr hq
  have hf5 : Fr (fun q => q = b13) W4 W5 := by rw [hW5]; exact Fr.setRX _ _ 0 _
  have h4 : Holds W4 b13 81 (nodeC va x) := (h.node.alloc o).of_eq (hgr.block _ (h.node.alloc o).lt fun he => owns_ne_holds h1 h.node (by decide) he.symm)
  have h5 : Holds W5 b13 81 (nodeC va' x) := h4.stored hW5 (Nat.le_of_ble_eq_true rfl)
  have hf : Fr (fun q => q = b13 ∨ va.ownBlock = some q) W W5 := hf4.trans hf5 fun q _ hq => .inl hq
  have hv : va'.ownBlock = va.ownBlock ∨ ∃ g, va'.ownBlock = some g ∧ W.heap.size ≤ g := hblk.imp id fun hb => ⟨_, hb, hs2⟩
  have hPA : ∀ k, PA lo X vs va k → ¬ (k = b13 ∨ va.ownBlock = some k) := fun k hk hh => by
    rcases hh with rfl | hh
    · have := hk.1; omega
    · exact hk.2.2.2 hh
  have hwd : Wide (fun k => PA lo X vs va k ∧ k < W.heap.size) (PA lo X vs va') W5 := fun k hk _ => ⟨hk.1.1, hk.1.2.1, hk.1.2.2.1, by
    rcases hv with hv | ⟨g, hv, hg⟩
    · rw [hv]; exact hk.1.2.2.2
    · rw [hv]; intro he; injection he with he; have := hk.2; omega⟩
  refine ⟨h.exfr hf fun k hk => ?_, h5, ⟨fa ++ c, by simpa using hf5.owns hown fun g hg he => owns_ne_holds hown h4 (by decide) (by rw [← he]; exact hg), ?_⟩, ⟨fm, hf.owns h3 fun g hgv => ?_, ?_⟩, rfl, h.far, h.hvo, h.lts, h.ge.1, h.ge.2.1, Nat.le_trans h.ge.2.2 hf.size⟩
  · rcases hk with rfl | hk
    · exact ⟨Nat.le_refl _, h.vs13⟩
    · obtain ⟨cs, hh⟩ := owns_holds h1 hk
      exact ⟨by have := hge k hk; omega, owns_ne_holds h.ex.row hh (by decide)⟩
  · exact LsF.mono (fun _ _ => ArcF.mono hwd) _ (LsF.up (w' := W5) (fun _ _ => oneArc.up fun k hk hs => hf.block k hs (hPA k hk.1)) _ (LsF.mono (fun _ _ => ArcF.mono (Wide.in_ (w := W))) _ (LsF.append hfa h.loose)))
  · rintro (rfl | hh)
    · have := owns_ge h3 _ hgv; omega
    · obtain ⟨cs, h9⟩ := owns_holds h3 hgv
      exact owns_ne_holds h1 h9 (by decide) hh
  · exact LsF.mono (fun _ _ => MovF.mono hwd) _ (LsF.up (w' := W5) (fun _ _ => oneMov.up fun k hk hs => hf.block k hs (hPA k hk.1)) _ (LsF.mono (fun _ _ => MovF.mono (Wide.in_ (w := W))) _ h4'))
/-- The round's beginning: the node's box, then the moves. -/
theorem RndL.start {wr : World} {W2 : World} {fm : List Value} {lm : Nat} (hE : ExL base P b4 b9 m w0 wr st out vs vo) (hb : Below wr.heap.size wr W2) (hn : Holds W2 b13 81 (nodeC (.slice none 0 0) x)) (h13 : wr.heap.size ≤ b13)
    (hb2 : Below W2.heap.size W2 W) (hl : W2.heap.size ≤ lm) (hm : W.ownsRow lm 75 9 vl ms.length fm) (hg : LsF MovF (fun q => lm ≤ q) W ms fm) : RndL base W2.heap.size b13 0 (fun k => P k ∧ k < wr.heap.size) b4 b9 m w0 st out x [] vs vo (.slice none 0 0) ms vl [] [] W := by
  obtain ⟨fo, n1, n2⟩ := hE.nodes
  have hE2 : ExL base (fun k => P k ∧ k < wr.heap.size) b4 b9 m w0 wr st out vs vo := ⟨hE.ne, hE.ge, hE.below, hE.r4, hE.row, hE.num, hE.outs, ⟨fo, n1, LsF.mono (fun _ _ => NodeF.mono Wide.in_) _ n2⟩, fun k hk => hE.far k hk.1⟩
  have hlt := hn.lt
  have hbb := hb.trans (hb2.mono hb.size)
  have hvs := owns_lt hE.row
  have z : ∀ {g : Nat} {t : TypeId} {cs : List Value}, Holds wr g t cs → g < b13 := fun h => Nat.lt_of_lt_of_le h.lt h13
  have hr4 := hE.r4.lt
  have hge := hE.ge
  have hsz := hb.size
  refine ⟨hE2.fr (Fr.of_below hbb (fun _ => False)) fun k hk => hk.elim, hn.belowAll hb2, ⟨[], ⟨rfl, .inl ⟨rfl, rfl⟩⟩, rfl⟩, ⟨fm, owns_wide hm hl, LsF.mono (fun _ _ => MovF.mono fun k hk _ => ⟨Nat.le_trans hl hk, by have : lm ≤ k := hk; omega, fun e => by have := hvs k e; have : lm ≤ k := hk; omega, by simp [Value.ownBlock]⟩) _ hg⟩, rfl, fun k hk => Nat.lt_of_lt_of_le hk.2 h13, fun g hg => Nat.lt_of_lt_of_le (owns_lt n1 g hg) h13, ⟨z hE.r4, z hE.outs, Nat.lt_of_lt_of_le hE.num.lt h13⟩, by omega, hlt, hb2.size⟩
/-- The outer round's end: the node is put behind the others. -/
theorem RndL.close {vo' : Value} {fo : List Value} {W4 W5 : World} {o : Obj} (h : RndL base lo b13 0 P b4 b9 m w0 st out x bs vs vo va ms vl [] [] W) (hfo : LsF NodeF P W out fo) (hn1 : W.ownsRow base 81 5 vo out.length fo)
    (hown : W4.ownsRow base 81 5 vo' (out.length + 1) (fo ++ nodeC va x)) (hgr : (W.alloc o).grownBy W4 vo.ownBlock) (hblk : vo'.ownBlock = vo.ownBlock ∨ vo'.ownBlock = some (W.alloc o).heap.size) (hW5 : W5 = setR W4 b9 0 [vo']) :
    ExL base (fun k => P k ∨ (lo ≤ k ∧ k < W.heap.size ∧ vs.ownBlock ≠ some k)) b4 b9 m w0 W5 st (out ++ [{ x with arcs := bs }]) vs vo' := by
  obtain ⟨fa, a1, a2⟩ := h.row
  have e := h.ex
  have hge := e.ge
  have hg := h.ge
  obtain ⟨l4, l9, lm⟩ := h.lts
  have hs2 : W.heap.size ≤ (W.alloc o).heap.size := by simp
  have hf4 : Fr (fun q => q = b9 ∨ vo.ownBlock = some q) W W4 := ((Fr.refl _ W).alloc o).grown hgr fun q hq _ => .inr hq
  have hf5 : Fr (fun q => q = b9) W4 W5 := by rw [hW5]; exact Fr.setRX _ _ 0 _
  have hf : Fr (fun q => q = b9 ∨ vo.ownBlock = some q) W W5 := hf4.trans hf5 fun q _ hq => .inl hq
  have h94 : Holds W4 b9 24 [vo] := (e.outs.alloc o).of_eq (hgr.block _ (e.outs.alloc o).lt fun he => owns_ne_holds hn1 e.outs (by decide) he.symm)
  have h95 : Holds W5 b9 24 [vo'] := h94.stored hW5 (Nat.le_refl _)
  have no : ∀ {g : Nat} {t : TypeId} {cs : List Value}, Holds W g t cs → t ≠ 81 → g ≠ b9 → ¬ (g = b9 ∨ vo.ownBlock = some g) := fun hh ht h9 hor => hor.elim h9 (owns_ne_holds hn1 hh (Ne.symm ht))
  have hv : ∀ g, vo'.ownBlock = some g → g < b13 ∨ W.heap.size ≤ g := fun g hgg => by
    rcases hblk with hb | hb
    · rw [hb] at hgg; exact .inl (h.hvo g hgg)
    · rw [hb] at hgg; injection hgg with hgg; right; omega
  have hPf : ∀ k, P k → ¬ (k = b9 ∨ vo.ownBlock = some k) := fun k hk hor => by
    obtain ⟨f1, f2, f3, f4, f5, f6⟩ := e.far k hk
    exact hor.elim f3 f6
  have hQf : ∀ k, lo ≤ k → ¬ (k = b9 ∨ vo.ownBlock = some k) := fun k hk hor => by
    rcases hor with hor | hor
    · omega
    · have := h.hvo k hor; omega
  have hnode : NodeF (fun k => P k ∨ (lo ≤ k ∧ k < W.heap.size ∧ vs.ownBlock ≠ some k)) W5 { x with arcs := bs } (nodeC va x) := by
    have r1 : RowL (fun k => lo ≤ k ∧ k < W.heap.size ∧ vs.ownBlock ≠ some k) W 6 va bs.length fa := RowL.of_owns2 a1 fun g hgg => by
      obtain ⟨cs, hh⟩ := owns_holds a1 hgg
      exact ⟨owns_ge a1 g hgg, owns_lt a1 g hgg, owns_ne_holds e.row hh (by decide)⟩
    have hk : Keep (fun k => lo ≤ k ∧ k < W.heap.size ∧ vs.ownBlock ≠ some k) W W5 := fun k hk hs => hf.block k hs (hQf k hk.1)
    have r2 : LsF ArcF (fun k => lo ≤ k ∧ k < W.heap.size ∧ vs.ownBlock ≠ some k) W bs fa := LsF.mono (fun _ _ => ArcF.mono fun k hk hs => ⟨hk.1, hs, hk.2.2.1⟩) _ a2
    exact ⟨va, rfl, fa, (r1.up hk).mono fun k hk _ => .inr hk, LsF.mono (fun _ _ => ArcF.mono fun k hk _ => .inr hk) _ (LsF.up (fun _ _ => oneArc.up hk) _ r2)⟩
  refine ⟨e.ne, e.ge, e.below.trans (hf.to_below (by omega) fun k hk hor => ?_), hf.holds e.r4 (no e.r4 (by decide) (Nat.ne_of_lt e.ne)), hf.owns e.row fun g hgg => ?_, e.num.of_eq (hf.block _ e.num.lt fun hor => ?_), h95,
    ⟨fo ++ nodeC va x, ?_, LsF.append (LsF.mono (fun _ _ => NodeF.mono fun k hk _ => .inl hk) _ (LsF.up (fun _ _ => oneNode.up fun k hk hs => hf.block k hs (hPf k hk)) _ hfo)) (LsF.sing hnode)⟩, fun k hk => ?_⟩
  · rcases hor with rfl | hor
    · omega
    · have := owns_ge hn1 k hor; omega
  · obtain ⟨cs, hh⟩ := owns_holds e.row hgg
    exact no hh (by decide) (hh.ne_of_type e.outs (by decide))
  · rcases hor with hor | hor
    · exact e.num.ne e.outs hor
    · obtain ⟨cs, hh⟩ := owns_holds hn1 hor
      exact e.num.ne hh rfl
  · rw [List.length_append]
    exact hf5.owns hown fun g hgg he => owns_ne_holds hown h94 (by decide) (by rw [← he]; exact hgg)
  · rcases hk with hk | hk
    · obtain ⟨f1, f2, f3, f4, f5, f6⟩ := e.far k hk
      exact ⟨f1, f2, f3, f4, f5, fun he => by
        rcases hblk with hb | hb
        · rw [hb] at he; exact f6 he
        · rw [hb] at he; injection he with he; have := h.far k hk; omega⟩
    · exact ⟨by omega, by omega, by omega, by omega, hk.2.2, fun he => by have := hv k he; omega⟩
end
/-- What lies before the loop. -/
theorem ExL.start {w w1 w2 w3 W : World} {s0 : ByteArray} (hw1 : w1 = w.alloc (.cells #[.slice none 0 0] 24)) (hb2 : Below w1.heap.size w1 w2) (hnum : NumV 1 w3 (w2.heap.size + 1) 1 [s0])
    (hgr : ((w2.alloc (.cells #[.string s0] 9)).alloc (.map #[] 0)).grownBy w3 (some (w2.heap.size + 1))) (hW : W = w3.alloc (.cells #[.slice none 0 0] 24)) :
    ExL w.heap.size (fun _ => False) w.heap.size w3.heap.size (w2.heap.size + 1) w W [s0] [] (.slice (some ⟨w2.heap.size, 0, none⟩) 1 1) (.slice none 0 0) := by
  have s1 : w1.heap.size = w.heap.size + 1 := by rw [hw1]; simp
  have s2 := hb2.size
  have s3 := hgr.size
  simp only [World.size_alloc] at s3
  have q4 : Holds w1 w.heap.size 24 [.slice none 0 0] := by rw [hw1]; exact Holds.new w 24 #[.slice none 0 0]
  have qs : Holds ((w2.alloc (.cells #[.string s0] 9)).alloc (.map #[] 0)) w2.heap.size 9 [.string s0] := (Holds.new w2 9 #[.string s0]).alloc _
  have up : ∀ {g : Nat} {t : TypeId} {cs : List Value}, Holds ((w2.alloc (.cells #[.string s0] 9)).alloc (.map #[] 0)) g t cs → g ≠ w2.heap.size + 1 → Holds W g t cs := fun {g t cs} h hne => by
    rw [hW]
    exact (h.of_eq (hgr.block g h.lt fun e => hne (by injection e))).alloc _
  have q42 := q4.belowAll hb2
  have hbel : Below w.heap.size w W := by
    have h1 : Below w.heap.size w w1 := by rw [hw1]; exact (Below.refl _ w).alloc (Nat.le_refl _) _
    have h2 : Below w.heap.size w w2 := h1.trans (hb2.mono h1.size)
    have h3 : Below w.heap.size w w3 := ((h2.alloc h2.size _).alloc (by simp; omega) _).grown hgr (by simp; omega) fun k hk => by injection hk with hk; omega
    rw [hW]
    exact h3.alloc h3.size _
  refine ⟨by omega, ⟨by omega, by omega, by omega⟩, hbel, up ((q42.alloc _).alloc _) (by have := q42.lt; omega), owns_lit (up qs (by omega)) (by omega) rfl (by omega), by rw [hW]; exact hnum.alloc _, ?_, ⟨[], ⟨rfl, .inl ⟨rfl, rfl⟩⟩, rfl⟩, fun _ h => h.elim⟩
  rw [hW]; exact Holds.new w3 24 #[_]
/-- What the statements' explore hands back. -/
def EplPost (r : Option (List ByteArray × PNet)) (w : World) (e : Ending) (w' : World) : Prop := Below w.heap.size w w' ∧ match r with
  | some (st, g) => ∃ vn vs, e = .returned (.tuple #[.agg #[vn], vs, .bool true]) ∧ NetV (From w.heap.size) w' vn g ∧ RowL (From w.heap.size) w' 1 vs st.length (st.map fun m => .string m)
  | none => e = .returned (.tuple #[.agg #[.slice none 0 0], .slice none 0 0, .bool false])
section
variable {off : Nat} {ops : Array Oper} {rest : List Oper} {o : Oper} {a : Act} {Q : Exit → Act → World → Prop} {w : World}
theorem wpList_insert_num (hg : o.guard = none) (m x v : Operand) (hop : o.op = .insert 90 m x v ∨ o.op = .mapUpdate 90 m x v) (b N : Nat) (k : ByteArray) (st : List ByteArray)
    (hm : a.eval m = .map (some b)) (hx : a.eval x = .string k) (hv : a.eval v = .int .i64 ((st.length + off : Nat) : Int)) (h : NumV off w b N st) (hN : N < maxLen) (hk : k.size ≤ 1048576) (hn : k ∉ st) (hl : st.length + off ≤ 30000)
    (hK : ∀ w', NumV off w' b (N + 1) (st ++ [k]) → w.grownBy w' (some b) → wpList Try.prog ops Q rest (a.put o.dst undef) w') : wpList Try.prog ops Q (o :: rest) a w := by
  obtain ⟨w', hrun, r1, r2⟩ := h.update hN hk hn hl
  generalize ((st.length + off : Nat) : Int) = z at hv hrun
  refine wpList_plain hg fun K' hK' => ?_
  unfold Oper.wp
  rcases hop with hop | hop
  · simp [execOp, hop, hm, hx, hv, hrun, Result.andThen]
    exact hK' _ _ (hK w' r1 r2)
  · simp [execOp, hop, hm, hx, hv, hrun, Result.andThen]
    exact hK' _ _ (hK w' r1 r2)
theorem wpList_look_num (hg : o.guard = none) (m x : Operand) (hop : o.op = .lookup 90 m x false) (b N : Nat) (k : ByteArray) (st : List ByteArray)
    (hm : a.eval m = .map (some b)) (hx : a.eval x = .string k) (h : NumV off w b N st) (hk : k.size ≤ 1048576)
    (hK : ∀ c : Int, (k ∈ st → c = ((st.idxOf k + off : Nat) : Int)) → (k ∉ st → c = 0) → wpList Try.prog ops Q rest (a.put o.dst (.int .i64 c)) w) : wpList Try.prog ops Q (o :: rest) a w := by
  obtain ⟨D, h1, h2⟩ := h
  refine wpList_lookup_own_int w hg m x 90 hop 9 3 .i64 str_keyed Try.underlying90 Try.underlying3 (by kernel_rfl) b N D hm h1 _ _ hx (key_str k hk) fun c hat hwf => ?_
  refine hK c (fun hin => ?_) fun hin => ?_
  · rw [h2.at_ k hin] at hat
    injection hat with hat
    injection hat with _ hat
    exact hat.symm
  · rw [atKey_of_not_has (by rw [h2.has k]; exact decide_eq_false hin)] at hat
    injection hat with hat
    injection hat with _ hat
    exact hat.symm
end
end Go.Proofs.Ytpednhcfkjjcpaa.G
