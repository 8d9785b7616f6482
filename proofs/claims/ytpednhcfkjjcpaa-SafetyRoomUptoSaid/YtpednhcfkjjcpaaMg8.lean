/- Owm, Own, Rnum, Rdec, Rnums, Rchk, Rmv, joined. -/
import Derived.Test.YtpednhcfkjjcpaaMg7
import Derived.Test.YtpednhcfkjjcpaaMg1
import Derived.Test.YtpednhcfkjjcpaaMg2
import Derived.Test.YtpednhcfkjjcpaaNums
import Derived.Test.YtpednhcfkjjcpaaChk
section
/- What lies in memory while a graph is copied whole: rows that may be written into. -/
namespace Go.Proofs.Ytpednhcfkjjcpaa
open Go.RowKit
set_option linter.unusedVariables false
set_option linter.unusedSimpArgs false

/-- A node whose rows may be written into. -/
def NodeG (P : Nat → Prop) (w : World) (x : PNode) (c : List Value) : Prop := NodeF P w x c ∧ ∃ va, c[0]? = some va ∧ SA P w va
theorem NodeG.mono {P Q : Nat → Prop} {w : World} (hl : Wide P Q w) {a : PNode} {c : List Value} (h : NodeG P w a c) : NodeG Q w a c := ⟨h.1.mono hl, by
  obtain ⟨va, h1, h2⟩ := h.2
  exact ⟨va, h1, h2.mono hl⟩⟩
theorem oneNodeG : One NodeG 5 := ⟨fun h => oneNode.len h.1, fun h => oneNode.one h.1, fun hu h => ⟨oneNode.up hu h.1, by
  obtain ⟨va, h1, h2⟩ := h.2
  exact ⟨va, h1, h2.up hu⟩⟩⟩
structure OwnO (S b : Nat) (w2 : World) (l : PNet) (vt : Value) (wr : World) : Prop where
  below : Below S w2 wr
  ge : S ≤ w2.heap.size ∧ S ≤ b
  box : Holds wr b 24 [vt]
  row : ∃ fo, wr.ownsRow S 81 5 vt l.length fo ∧ LsF NodeG (fun k => S ≤ k ∧ k ≠ b ∧ vt.ownBlock ≠ some k) wr l fo
theorem OwnO.app {S b : Nat} {w2 wr W8 W9 W10 : World} {l : PNet} {y : PNode} {vt vt' : Value} {fo c : List Value} {o : Obj} (h : OwnO S b w2 l vt wr) (hr : wr.ownsRow S 81 5 vt l.length fo) (hfo : LsF NodeG (fun k => S ≤ k ∧ k ≠ b ∧ vt.ownBlock ≠ some k) wr l fo) (h8 : Below wr.heap.size wr W8)
    (hy : NodeG (fun k => wr.heap.size ≤ k) W8 y c) (hown : W9.ownsRow S 81 5 vt' (l.length + 1) (fo ++ c)) (hgr : (W8.alloc o).grownBy W9 vt.ownBlock) (hblk : vt'.ownBlock = vt.ownBlock ∨ vt'.ownBlock = some (W8.alloc o).heap.size) (hW : W10 = setR W9 b 0 [vt']) : OwnO S b w2 (l ++ [y]) vt' W10 := by
  have hg := h.ge
  have hbs := h.below.size
  have hvl := owns_lt hr
  have hvg := owns_ge hr
  have hbl := h.box.lt
  have hs8 := h8.size
  have hs9 : W8.heap.size ≤ (W8.alloc o).heap.size := by simp
  have hf5 : Fr (fun q => q = b) W9 W10 := by rw [hW]; exact Fr.setRX _ _ 0 _
  have hf9 : Fr (fun q => vt.ownBlock = some q) W8 W9 := ((Fr.refl _ W8).alloc o).grown hgr fun q hq _ => hq
  have hf : Fr (fun q => q = b ∨ vt.ownBlock = some q) W8 W10 := (hf9.mono fun _ _ h => .inr h).trans hf5 fun q _ hq => .inl hq
  have hb8 : Holds W8 b 24 [vt] := h.box.belowAll h8
  have hr8 := owns_below hr h8
  have hb9 : Holds W9 b 24 [vt] := hf9.holds hb8 (owns_ne_holds hr8 hb8 (by decide))
  have hv : ∀ k, k < W8.heap.size → vt.ownBlock ≠ some k → vt'.ownBlock ≠ some k := fun k hk hn he => by
    rcases hblk with hb | hb
    · rw [hb] at he; exact hn he
    · rw [hb] at he; injection he with he; omega
  refine ⟨(h.below.trans (h8.mono (by omega))).trans (hf.to_below (by omega) fun k hk hor => ?_), h.ge, hb9.stored hW (Nat.le_refl _), fo ++ c, ?_, LsF.append ?_ (LsF.sing ?_)⟩
  · rcases hor with rfl | hor
    · omega
    · have := hvg k hor; omega
  · rw [List.length_append]
    exact hf5.owns hown fun g hgg he => owns_ne_holds hown hb9 (by decide) (by rw [← he]; exact hgg)
  · have a0 := LsF.mono (fun _ _ => NodeG.mono (Wide.in_ (w := wr))) _ hfo
    have a1 := LsF.up (w' := W8) (fun _ _ => oneNodeG.up fun k hk hs => h8.block k hs) _ a0
    have a2 := LsF.up (w' := W10) (fun _ _ => oneNodeG.up fun k hk hs => hf.block k hs fun hor => hor.elim hk.1.2.1 hk.1.2.2) _ a1
    exact LsF.mono (fun _ _ => NodeG.mono fun k hk _ => ⟨hk.1.1, hk.1.2.1, hv k (by omega) hk.1.2.2⟩) _ a2
  · have hne : ∀ k, wr.heap.size ≤ k → k ≠ b ∧ vt.ownBlock ≠ some k := fun k hk => ⟨by omega, fun he => by have := hvl k he; omega⟩
    have a0 := NodeG.mono (Wide.in_ (w := W8)) hy
    have a2 := oneNodeG.up (w' := W10) (fun k hk hs => hf.block k hs fun hor => hor.elim (hne k hk.1).1 (hne k hk.1).2) a0
    exact NodeG.mono (fun k hk _ => ⟨by omega, (hne k hk.1).1, hv k hk.2 (hne k hk.1).2⟩) a2
/-- What list hands back. -/
def LsI (lo : Nat) (w : World) (l : List Int) (v : Value) : Prop := ∃ g, v = .slice (some ⟨g, 0, none⟩) l.length (l.length + 1) ∧ lo ≤ g ∧ Holds w g 3 (l.map intV ++ [.int .i64 77])
theorem LsI.row {lo : Nat} {w : World} {l : List Int} {v : Value} (h : LsI lo w l v) (hl : l.length ≤ 2000000) : RowL (fun k => lo ≤ k) w 1 v l.length (l.map intV) := by
  obtain ⟨g, rfl, h2, h3⟩ := h
  exact ⟨_, _, rfl, by omega, by omega, by simp, (fun h => by cases h), fun hn => ⟨g, 0, _, _, rfl, h2, h3.r, fun j hj => by rw [Nat.zero_add, List.getElem?_append_left (by simp; omega)]⟩⟩
theorem LsI.si {lo : Nat} {w : World} {l : List Int} {v : Value} (h : LsI lo w l v) (hl : l.length ≤ 2000000) : SI (fun k => lo ≤ k) w v := by
  obtain ⟨g, rfl, h2, h3⟩ := h
  exact .inr ⟨g, _, _, _, rfl, by omega, by omega, h2, h3, by simp⟩
theorem LsI.fr {lo gA : Nat} {w w' : World} {l : List Int} {v : Value} {cs : List Value} (h : LsI lo w l v) (hA : Holds w gA 86 cs) (hf : Fr (fun q => q = gA) w w') : LsI lo w' l v := by
  obtain ⟨g, rfl, h2, h3⟩ := h
  exact ⟨g, rfl, h2, hf.holds h3 (h3.ne_of_type hA (by decide))⟩
theorem LsI.below {lo : Nat} {w w' : World} {l : List Int} {v : Value} (h : LsI lo w l v) (hb : Below w.heap.size w w') : LsI lo w' l v := by
  obtain ⟨g, rfl, h2, h3⟩ := h
  exact ⟨g, rfl, h2, h3.belowAll hb⟩
/-- An arc's cells while they are copied. -/
def EntO (lo : Nat) (w : World) (a : PArc) (done : Prop) (e : List Value) : Prop := ∃ rs ws, e = arcC a rs ws ∧ (done → LsI lo w a.reads rs ∧ LsI lo w a.writes ws)
structure InO (lo gA : Nat) (l : List PArc) (w9 : World) (k : Nat) (cs : List Value) (wr : World) : Prop where
  fr : Fr (fun q => q = gA) w9 wr
  box : Holds wr gA 86 cs
  len : cs.length = (l.length + 1) * 6
  ent : ∀ (j : Nat) (h : j < l.length), EntO lo wr l[j] (j < k) (cut 6 j cs)
theorem EntO.below {lo : Nat} {w w' : World} {a : PArc} {d : Prop} {e : List Value} (h : EntO lo w a d e) (hb : Below w.heap.size w w') : EntO lo w' a d e := by
  obtain ⟨rs, ws, h1, h2⟩ := h
  exact ⟨rs, ws, h1, fun hd => ⟨(h2 hd).1.below hb, (h2 hd).2.below hb⟩⟩
theorem InO.below {lo gA : Nat} {l : List PArc} {w9 wr w' : World} {k : Nat} {cs : List Value} (h : InO lo gA l w9 k cs wr) (hb : Below wr.heap.size wr w') : InO lo gA l w9 k cs w' :=
  ⟨h.fr.trans (Fr.of_below hb _) fun _ _ h => h, h.box.belowAll hb, h.len, fun j hj => (h.ent j hj).below hb⟩
theorem InO.start {lo gA : Nat} {l : List PArc} {w9 : World} {P : Nat → Prop} {w : World} {f cur : List Value} (hf : LsF ArcF P w l f) (hl : f.length = l.length * 6) (hc : cur.length = (l.length + 1) * 6) (hb : Holds w9 gA 86 (f ++ cur.drop f.length)) : InO lo gA l w9 0 (f ++ cur.drop f.length) w9 := by
  refine ⟨Fr.refl _ _, hb, by simp; omega, fun j hj => ?_⟩
  have h1 := LsF.cut_at oneArc hf j hj
  have h2 : cut 6 j (f ++ cur.drop f.length) = cut 6 j f := by
    rw [← cut_take (M := l.length) hj, List.take_append_of_le_length (by omega), List.take_of_length_le (by omega)]
  rw [h2]
  obtain ⟨rs, ws, h3, _⟩ := h1
  exact ⟨rs, ws, h3, fun h => absurd h (Nat.not_lt_zero _)⟩
/-- Both rows of arc k are copied. -/
theorem InO.step {lo gA k : Nat} {l : List PArc} {w9 wr w' : World} {cs : List Value} {rs ws : Value} (h : InO lo gA l w9 k cs wr) (hk : k < l.length) (hf : Fr (fun q => q = gA) wr w') (hb : Holds w' gA 86 ((cs.set (k * 6 + 3) rs).set (k * 6 + 4) ws)) (hr : LsI lo w' l[k].reads rs) (hw : LsI lo w' l[k].writes ws) :
    InO lo gA l w9 (k + 1) ((cs.set (k * 6 + 3) rs).set (k * 6 + 4) ws) w' := by
  refine ⟨h.fr.trans hf fun _ _ h => h, hb, by simpa using h.len, fun j hj => ?_⟩
  by_cases e : j = k
  · subst e
    obtain ⟨r0, s0, h1, _⟩ := h.ent j hj
    refine ⟨rs, ws, ?_, fun _ => ⟨hr, hw⟩⟩
    rw [cut_self (by omega), cut_self (by omega), h1]
    rfl
  · obtain ⟨r0, s0, h1, h2⟩ := h.ent j hj
    refine ⟨r0, s0, ?_, fun hd => ?_⟩
    · rw [cut_set (by omega) e, cut_set (by omega) e, h1]
    · have h3 := h2 (by omega)
      exact ⟨h3.1.fr h.box hf, h3.2.fr h.box hf⟩
/-- All are copied: the node with its arcs. -/
theorem InO.done {lo gA b5 : Nat} {x : PNode} {w9 wr W8 : World} {cs : List Value} (h : InO lo gA x.arcs w9 x.arcs.length cs wr) (hA : lo ≤ gA) (hs : ∀ a ∈ x.arcs, a.reads.length ≤ 2000000 ∧ a.writes.length ≤ 2000000) (hn : x.arcs.length ≤ 2000000) {cs' : List Value} (hcs : cs'.take (x.arcs.length * 6) = cs.take (x.arcs.length * 6)) (hl : cs'.length = cs.length)
    (hb : Holds W8 gA 86 cs') (hf : Fr (fun q => q = gA ∨ q = b5) wr W8) (h5 : ∃ t ds, t ≠ 3 ∧ Holds wr b5 t ds) : NodeG (fun k => lo ≤ k) W8 x (nodeC (.slice (some ⟨gA, 0, none⟩) x.arcs.length (x.arcs.length + 1)) x) := by
  have hlen := h.len
  obtain ⟨t5, ds5, ht5, hd5⟩ := h5
  have hup : ∀ {l : List Int} {v : Value}, LsI lo wr l v → LsI lo W8 l v := fun ⟨g, e, h2, h3⟩ => ⟨g, e, h2, hf.holds h3 fun hor => hor.elim (h3.ne_of_type h.box (by decide)) (h3.ne_of_type hd5 (Ne.symm ht5))⟩
  have hcut : ∀ j, j < x.arcs.length → cut 6 j cs' = cut 6 j cs := fun j hj => by rw [← cut_take (M := x.arcs.length) hj, hcs, cut_take hj]
  have hent : ∀ (j : Nat) (hj : j < x.arcs.length), ∃ rs ws, cut 6 j cs' = arcC x.arcs[j] rs ws ∧ LsI lo W8 x.arcs[j].reads rs ∧ LsI lo W8 x.arcs[j].writes ws := fun j hj => by
    obtain ⟨rs, ws, h1, h2⟩ := h.ent j hj
    exact ⟨rs, ws, (hcut j hj).trans h1, hup (h2 hj).1, hup (h2 hj).2⟩
  refine ⟨⟨_, rfl, cs'.take (x.arcs.length * 6), ⟨_, _, rfl, by omega, by omega, by rw [List.length_take]; omega, (fun h => by cases h), fun _ => ⟨gA, 0, cs', _, rfl, hA, hb.r, fun j hj => by rw [Nat.zero_add, List.getElem?_take_of_lt hj]⟩⟩, LsF.of_cut _ _ fun j hj => ?_⟩, _, rfl, .inr ⟨gA, _, _, cs', rfl, by omega, by omega, hA, hb, by omega, fun j hj => ?_⟩⟩
  · obtain ⟨rs, ws, h1, h2, h3⟩ := hent j hj
    have := hs _ (List.getElem_mem hj)
    exact ⟨rs, ws, h1, h2.row this.1, h3.row this.2⟩
  · obtain ⟨rs, ws, h1, h2, h3⟩ := hent j hj
    have := hs _ (List.getElem_mem hj)
    refine ⟨rs, ws, ?_, ?_, h2.si this.1, h3.si this.2⟩
    · rw [← cut_get (m := 6) (by omega), h1]; rfl
    · rw [← cut_get (m := 6) (by omega), h1]; rfl
end Go.Proofs.Ytpednhcfkjjcpaa
end
section
/- The walk of the statements' own: a graph copied whole. -/
namespace Go.Proofs.Ytpednhcfkjjcpaa
open Go.RowKit
set_option linter.unusedVariables false
set_option linter.unusedSimpArgs false

def OwnPost (N : PNet) (w : World) (e : Ending) (w' : World) : Prop := Below w.heap.size w w' ∧ ∃ vn, e = .returned (.agg #[vn]) ∧ NetV (From w.heap.size) w' vn N ∧ (0 < N.length → SN (From w.heap.size) w' vn)
theorem SN.up {R : Nat → Prop} {w w' : World} (hu : Keep R w w') {v : Value} (h : SN R w v) : SN R w' v := by
  obtain ⟨g, n, c, cs, h1, h2, h3, h4, h5, h6, h7⟩ := h
  exact ⟨g, n, c, cs, h1, h2, h3, h4, h5.of_eq (hu g h4 h5.lt), h6, fun i hi => by obtain ⟨va, q1, q2⟩ := h7 i hi; exact ⟨va, q1, q2.up hu⟩⟩
theorem SN.mono {R R' : Nat → Prop} {w : World} (hl : Wide R R' w) {v : Value} (h : SN R w v) : SN R' w v := by
  obtain ⟨g, n, c, cs, h1, h2, h3, h4, h5, h6, h7⟩ := h
  exact ⟨g, n, c, cs, h1, h2, h3, hl g h4 h5.lt, h5, h6, fun i hi => by obtain ⟨va, q1, q2⟩ := h7 i hi; exact ⟨va, q1, q2.mono hl⟩⟩
theorem LsF.imp {A : Type} {F G : (Nat → Prop) → World → A → List Value → Prop} {P Q : Nat → Prop} {w : World} (hF : ∀ a c, F P w a c → G Q w a c) : ∀ (l : List A) {f : List Value}, LsF F P w l f → LsF G Q w l f
  | [], f, h => h
  | a :: l, f, ⟨c, r, h1, h2, h3⟩ => ⟨c, r, h1, hF a c h2, LsF.imp hF l h3⟩
theorem netG {P : Nat → Prop} {w : World} {l : PNet} {v : Value} {base S : Nat} {fo : List Value} (hr : w.ownsRow S 81 5 v l.length fo) (hfo : LsF NodeG P w l fo) (hP : ∀ k, P k → base ≤ k) (hS : base ≤ S) (hn : l.length ≤ 1000000000) : NetV (From base) w v l ∧ (0 < l.length → SN (From base) w v) := by
  refine ⟨⟨fo, RowL.of_owns hr fun k hk => Nat.le_trans hS hk, LsF.imp (fun _ _ h => h.1.mono fun k hk _ => hP k hk) _ hfo⟩, fun hpos => ?_⟩
  have hlen := hr.1
  rcases hr.2 with ⟨_, h0⟩ | ⟨g, cap, cur, rfl, hb, hg, hnc, hcm, hcs, ht⟩
  · omega
  · refine ⟨g, _, _, cur.toList, rfl, hnc, hn, Nat.le_trans hS hb, by unfold Holds; simpa using hg, by
      have h7 := Nat.mul_le_mul_right 5 hnc
      rw [← hcs] at h7
      simpa using h7, fun i hi => ?_⟩
    obtain ⟨c, h1, h2⟩ := LsF.at (fun a c => oneNodeG.len) hi hfo
    obtain ⟨va, h3, h4⟩ := h1.2
    refine ⟨va, ?_, h4.mono fun k hk _ => hP k hk⟩
    have h5 := h2 0 (by omega)
    rw [h3, Nat.add_zero] at h5
    rw [← h5, ← ht, List.getElem?_take_of_lt (by omega)]
theorem ls_one {A : Type} {F : (Nat → Prop) → World → A → List Value → Prop} {n : Nat} (H : One F n) {P : Nat → Prop} {w : World} : ∀ {l : List A} {f : List Value}, LsF F P w l f → ∀ u ∈ f, u.oneCell' = true
  | [], f, h, u, hu => by
    obtain rfl := h
    cases hu
  | a :: l, f, ⟨c, r, h1, h2, h3⟩, u, hu => by
    rw [h1] at hu
    rcases List.mem_append.1 hu with hu | hu
    · exact List.all_eq_true.1 (H.one h2) u hu
    · exact ls_one H h3 u hu
end Go.Proofs.Ytpednhcfkjjcpaa
end
section
/- The walk of the document's Number. -/
namespace Go.Proofs.Ytpednhcfkjjcpaa
open Go.RowKit
set_option linter.unusedVariables false
set_option linter.unusedSimpArgs false

theorem run_one_byte {P : Program} (w : World) (t e dst : TypeId) (b : Nat) (n : Nat) (hn : n < 256) (ht : P.underlying t = some (.slice e)) (he : P.underlying e = some (.int .u8)) (hd : P.underlying dst = some .string)
    (h : w.cell? ⟨b, 0, none⟩ = some (.int .u8 (n : Int))) : (convert t dst (.slice (some ⟨b, 0, none⟩) 1 1)).run P w = .ok (.string ⟨#[UInt8.ofNat n]⟩) w := by
  have := run_convert_bytes_back (P := P) w t dst e ⟨b, 0, none⟩ 1 [UInt8.ofNat n] ht he hd (fun j hj => by
    have : j = 0 := by simpa using hj
    subst this
    have h2 : (⟨b, 0, none⟩ : Addr).add 0 = ⟨b, 0, none⟩ := rfl
    rw [h2, h]
    show _ = some (Value.int .u8 ((UInt8.ofNat n).toNat : Int))
    rw [u8_of hn])
  simpa using this
def NumPost (n : Nat) (w : World) (e : Ending) (w' : World) : Prop := e = .returned (.string ⟨(enc n).toArray⟩) ∧ Below w.heap.size w w'
end Go.Proofs.Ytpednhcfkjjcpaa
end
section
/- Bytes as numbers: the document's reader (printed by mkrdec.py). -/
namespace Go.Proofs.Ytpednhcfkjjcpaa
open Go.RowKit
set_option linter.unusedVariables false
set_option linter.unusedSimpArgs false

theorem sum_fit {m y k : Nat} (h : k ≤ 9) (hm : m < 128 ^ k) (hy : y ≤ 127 ∧ (k = 9 → y ≤ 1)) : m + y * 128 ^ k < 18446744073709551616 := by
  have h1 : k = 0 ∨ k = 1 ∨ k = 2 ∨ k = 3 ∨ k = 4 ∨ k = 5 ∨ k = 6 ∨ k = 7 ∨ k = 8 ∨ k = 9 := by omega
  rcases h1 with rfl | rfl | rfl | rfl | rfl | rfl | rfl | rfl | rfl | rfl <;> simp at hy hm ⊢ <;> omega
end Go.Proofs.Ytpednhcfkjjcpaa
end
section
/- Bytes as numbers: the document's Uint, Numbers (printed by mkrnums.py). -/
namespace Go.Proofs.Ytpednhcfkjjcpaa
open Go.RowKit
set_option linter.unusedVariables false
set_option linter.unusedSimpArgs false

/-- What stands in a number's answer. -/
def dnN : Dn → Nat | .ok n _ => n | _ => 0
def dnK : Dn → Nat | .ok _ k => k | _ => 0
def dnC : Dn → Nat | .ok _ _ => 0 | .cut => 10 | .form => 11
end Go.Proofs.Ytpednhcfkjjcpaa
end
section
/- The walk of the document's Check (printed by mkrchk.py). -/
namespace Go.Proofs.Ytpednhcfkjjcpaa
open Go.RowKit
set_option linter.unusedVariables false
set_option linter.unusedSimpArgs false

end Go.Proofs.Ytpednhcfkjjcpaa
end
section
/- The walks of the reference's Move, copies, Bytes; the statements' pick. -/
namespace Go.Proofs.Ytpednhcfkjjcpaa
open Go.RowKit
set_option linter.unusedVariables false
set_option linter.unusedSimpArgs false

set_option maxHeartbeats 4000000 in
set_option maxRecDepth 100000 in
theorem moveFn {P P' : Nat → Prop} {w : World} {k : Nat} {a : PArc} {s : ByteArray} {vr vw vr' vw' : Value} (h1 : RowL P w 1 vr a.reads.length (a.reads.map intV)) (h2 : RowL P w 1 vw a.writes.length (a.writes.map intV)) (h3 : RowL P' w 1 vr' a.reads.length (a.reads.map intV)) (h4 : RowL P' w 1 vw' a.writes.length (a.writes.map intV)) (hn : a.reads.length ≤ 2000000 ∧ a.writes.length ≤ 2000000) :
    Calls Try.prog 28 #[.agg (mvC k a s vr vw).toArray, .agg (mvC k a s vr' vw').toArray] w (Yes w) := by
  obtain ⟨a1, c1, rfl, _, _, _⟩ := h1.form
  obtain ⟨a2, c2, rfl, _, _, _⟩ := h2.form
  obtain ⟨a3, c3, rfl, _, _, _⟩ := h3.form
  obtain ⟨a4, c4, rfl, _, _, _⟩ := h4.form
  obtain ⟨w1, hw1⟩ : ∃ W, W = (w.alloc (.cells #[.int .i64 a.proc, .int .i64 (k : Int), .int .i64 (-1), .int .i64 (-1), .string s, .int .i64 a.bad, .slice a1 a.reads.length c1, .slice a2 a.writes.length c2, .int .u64 (a.turns : Int)] 75)).alloc (.cells #[.int .i64 a.proc, .int .i64 (k : Int), .int .i64 (-1), .int .i64 (-1), .string s, .int .i64 a.bad, .slice a3 a.reads.length c3, .slice a4 a.writes.length c4, .int .u64 (a.turns : Int)] 75) := ⟨_, rfl⟩
  have hb1 : Below w.heap.size w w1 := by rw [hw1]; exact ((Below.refl _ _).alloc (Nat.le_refl _) _).alloc (by simp) _
  have d1 : Holds w1 w.heap.size 75 (mvC k a s (.slice a1 a.reads.length c1) (.slice a2 a.writes.length c2)) := by
    rw [hw1]
    exact (Holds.new w 75 (mvC k a s (.slice a1 a.reads.length c1) (.slice a2 a.writes.length c2)).toArray).alloc _
  have d2 : Holds w1 (w.heap.size + 1) 75 (mvC k a s (.slice a3 a.reads.length c3) (.slice a4 a.writes.length c4)) := by
    have h := Holds.new (w.alloc (.cells (mvC k a s (.slice a1 a.reads.length c1) (.slice a2 a.writes.length c2)).toArray 75)) 75 (mvC k a s (.slice a3 a.reads.length c3) (.slice a4 a.writes.length c4)).toArray
    simp only [World.size_alloc] at h
    rw [hw1]
    exact h
  have HB1 := Lib.hid hb1
  have D1 := Lib.hid d1
  have D2 := Lib.hid d2
  have H1 := Lib.hid (h1.up (Keep.below hb1))
  have H2 := Lib.hid (h2.up (Keep.below hb1))
  have H3 := Lib.hid (h3.up (Keep.below hb1))
  have H4 := Lib.hid (h4.up (Keep.below hb1))
  have e6 := d1.cell 6
  have f6 := d2.cell 6
  simp only [mvC, List.getElem?_cons_zero, List.getElem?_cons_succ] at e6 f6 ⊢
  rw [hw1] at e6 f6
  clear hb1 d1 d2 h1 h2 h3 h4
  go_enter Try.func28, Try.ntmps28
  go_wp2_with (fail)
  rw [← hw1]
  clear hw1 e6 f6
  refine (sameFn H1.out H3.out hn.1).mono ?_
  rintro e w2 ⟨rfl, hb2⟩
  have e7 := (D1.out.belowAll hb2).cell 7
  have f7 := (D2.out.belowAll hb2).cell 7
  simp only [mvC, List.getElem?_cons_zero, List.getElem?_cons_succ] at e7 f7
  have H22 := Lib.hid (H2.out.up (Keep.below hb2))
  have H42 := Lib.hid (H4.out.up (Keep.below hb2))
  have HB2 : Hid (Below w.heap.size w w2) := HB1.out.trans (hb2.mono HB1.out.size)
  have D12 := Lib.hid (D1.out.belowAll hb2)
  have D22 := Lib.hid (D2.out.belowAll hb2)
  clear hb2 D1 D2 H2 H4
  go_wp2_with (fail)
  refine (sameFn H22.out H42.out hn.2).mono ?_
  rintro e w3 ⟨rfl, hb3⟩
  have E := D12.out.belowAll hb3
  have G := D22.out.belowAll hb3
  have e0 := E.cell 0
  have e1 := E.cell 1
  have e2 := E.cell 2
  have e3 := E.cell 3
  have e4 := E.cell 4
  have e5 := E.cell 5
  have e8 := E.cell 8
  have g0 := G.cell 0
  have g1 := G.cell 1
  have g2 := G.cell 2
  have g3 := G.cell 3
  have g4 := G.cell 4
  have g5 := G.cell 5
  have g8 := G.cell 8
  simp only [mvC, List.getElem?_cons_zero, List.getElem?_cons_succ] at e0 e1 e2 e3 e4 e5 e8 g0 g1 g2 g3 g4 g5 g8
  have HB3 : Hid (Below w.heap.size w w3) := HB2.out.trans (hb3.mono HB2.out.size)
  clear hb3 E G e7 f7
  go_wp2
  go_ret
  exact ⟨rfl, HB3.out⟩
def CopiesPost (l : List Int) (w : World) (e : Ending) (w' : World) : Prop := Below w.heap.size w w' ∧ ∃ v, e = .returned v ∧ RowX w.heap.size w' v l
theorem key_add (m : Nat) : (⟨#[]⟩ : ByteArray) ++ ⟨(enc m).toArray⟩ = keyS m := by
  apply ByteArray.ext
  simp [keyS, ByteArray.append_eq]
end Go.Proofs.Ytpednhcfkjjcpaa
end
