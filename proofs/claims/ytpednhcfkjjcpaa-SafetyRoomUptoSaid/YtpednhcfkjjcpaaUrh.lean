/- More of what turns the search's memory: the way's top, what is taken off. -/
import Derived.Test.YtpednhcfkjjcpaaUen
import Derived.Test.YtpednhcfkjjcpaaMg10
import Derived.Deep.LoopGhost
namespace Go.Proofs.Ytpednhcfkjjcpaa.G
open Go.RowKit Go.Maps
set_option linter.unusedVariables false
set_option linter.unusedSimpArgs false

theorem owns_some {w : World} {base : Nat} {e : TypeId} {size n : Nat} {v : Value} {xs : List Value} (h : w.ownsRow base e size v n xs) (hn : 0 < n) : ∃ g cap, v = .slice (some ⟨g, 0, none⟩) n cap ∧ base ≤ g ∧ g < w.heap.size ∧ n ≤ cap ∧ cap ≤ maxLen ∧ True ∧ True := by
  rcases h.2 with ⟨h0, _⟩ | ⟨g, cap, cur, rfl, hb, hg, h1, h2, _⟩
  · omega
  · exact ⟨g, cap, rfl, hb, (Array.getElem?_eq_some_iff.1 hg).1, h1, h2, trivial, trivial⟩
section
variable {I : Ifc} {vm : Value} {o : POpt} {b0 X Sb mb : Nat} {F P Q : Nat → Prop} {L : List Nat} {vw vp : Value} {w0 w w' : World} {x : Sr}
/-- The way's top, in memory. -/
theorem SrchV.top {f : Frm} {r : List Frm} (h : SrchV I vm o b0 X Sb mb F P Q L vw vp w0 x w) (hx : x.way = f :: r) : ∃ g cap a c, vw = .slice (some ⟨g, 0, none⟩) (r.length + 1) cap ∧ r.length + 1 ≤ cap ∧ w.cell? ⟨g, r.length * 3, none⟩ = some (.int .i64 (f.n : Int)) ∧ w.cell? ⟨g, r.length * 3 + 1, none⟩ = some (.slice a f.l.length c) ∧ w.cell? ⟨g, r.length * 3 + 2, none⟩ = some (.int .i64 (f.k : Int)) ∧ (∀ j, w.frozen? ⟨g, j, none⟩ = false) ∧ f.l.length ≤ c ∧ MvsV P w (.slice a f.l.length c) f.l ∧ g ≠ X ∧ g < w.heap.size ∧ ¬ P g := by
  obtain ⟨fw, w1, w2⟩ := h.way
  have hlx : x.way.length = r.length + 1 := by rw [hx]; rfl
  rw [hlx] at w1
  rw [hx, List.reverse_cons] at w2
  obtain ⟨f1, c, e1, e2, vl, e3, e4⟩ := LsF.snoc_inv w2
  have hl1 : f1.length = r.length * 3 := by
    have := LsF.len (fun a c h => oneFrm.len h) e2
    simpa using this
  obtain ⟨a, cc, rfl, hcc⟩ := e4.lenS
  have hcap : ∃ g cap, vw = .slice (some ⟨g, 0, none⟩) (r.length + 1) cap ∧ r.length + 1 ≤ cap := by
    rcases w1.2 with ⟨h0, _⟩ | ⟨g, cap, cur, rfl, _, _, hn, _⟩
    · omega
    · exact ⟨g, cap, rfl, hn⟩
  obtain ⟨g, cap, rfl, hcp⟩ := hcap
  have hat : ∀ j v, j < 3 → fw[r.length * 3 + j]? = some v → w.cell? ⟨g, r.length * 3 + j, none⟩ = some v := fun j v hj hv => by
    rw [w1.cellAt _ (by omega)]; exact hv
  have hfw : ∀ j, fw[r.length * 3 + j]? = [Value.int .i64 (f.n : Int), .slice a f.l.length cc, .int .i64 (f.k : Int)][j]? := fun j => by
    rw [e1, e3, ← hl1, List.getElem?_append_right (by omega), Nat.add_sub_cancel_left]
  exact ⟨g, cap, a, cc, rfl, hcp, hat 0 _ (by omega) (hfw 0), hat 1 _ (by omega) (hfw 1), hat 2 _ (by omega) (hfw 2), fun j => w1.frozenAt j, hcc, e4, fun e => owns_ne_holds w1 h.box (by decide) (by rw [← e]; rfl), owns_lt w1 g rfl, fun hP => (h.sep g (.inl hP)).2.2.2.2.1 rfl⟩
theorem SrchV.top2 {g cap : Nat} {f : Frm} {r : List Frm} (h : SrchV I vm o b0 X Sb mb F P Q L (.slice (some ⟨g, 0, none⟩) (r.length + 1) cap) vp w0 x w) (hx : x.way = f :: r) : ∃ a c, w.cell? ⟨g, r.length * 3, none⟩ = some (.int .i64 (f.n : Int)) ∧ w.cell? ⟨g, r.length * 3 + 1, none⟩ = some (.slice a f.l.length c) ∧ w.cell? ⟨g, r.length * 3 + 2, none⟩ = some (.int .i64 (f.k : Int)) ∧ (∀ j, w.frozen? ⟨g, j, none⟩ = false) ∧ f.l.length ≤ c ∧ MvsV P w (.slice a f.l.length c) f.l := by
  obtain ⟨g', cap', a, c, e, _, h1, h2, h3, h4, h5, h6, _⟩ := h.top hx
  injection e with e _ e2
  injection e with e
  injection e with e
  subst e e2
  exact ⟨a, c, h1, h2, h3, h4, h5, h6⟩
theorem SrchV.keepBump {g cap n j : Nat} {v : Value} (h : SrchV I vm o b0 X Sb mb F P Q L (.slice (some ⟨g, 0, none⟩) n cap) vp w0 x w) (hW : w' = w.setCell ⟨g, j, none⟩ v) : Keep (fun k => P k ∨ Q k) w w' := fun k hk hs => by
  rw [hW]
  exact Below.heap_setCell _ _ _ _ fun e => (h.sep k hk).2.2.2.2.1 (by rw [e]; rfl)
theorem SrchV.boxGrown {W4 : World} {n : Nat} {fp : List Value} (h : SrchV I vm o b0 X Sb mb F P Q L vw vp w0 x w) (hr : w.ownsRow b0 75 9 vp n fp) (hgr : w.grownBy W4 vp.ownBlock) : Holds W4 X 64 (srC I vm o Sb mb vw vp x.limit 0 0 (.slice none 0 0) 0 x.moves x.deep) :=
  h.box.of_eq (hgr.block _ h.box.lt fun e => owns_ne_holds hr h.box (by decide) e.symm)
theorem SrchV.popWay {g cap : Nat} {f : Frm} {r : List Frm} (h : SrchV I vm o b0 X Sb mb F P Q L (.slice (some ⟨g, 0, none⟩) (r.length + 1) cap) vp w0 x w) (hx : x.way = f :: r) (hW : w' = setR w X 11 [.slice (some ⟨g, 0, none⟩) r.length cap]) : SrchV I vm o b0 X Sb mb F P Q L (.slice (some ⟨g, 0, none⟩) r.length cap) vp w0 { x with way := r } w' ∧ Keep (fun k => P k ∨ Q k) w w' := by
  have hf : Fr (fun q => q = X) w w' := by rw [hW]; exact Fr.setRX _ _ 11 _
  obtain ⟨fw, w1, w2⟩ := h.way
  obtain ⟨fp, p1, p2⟩ := h.path
  have hlx : x.way.length = r.length + 1 := by rw [hx]; rfl
  rw [hlx] at w1
  rw [hx, List.reverse_cons] at w2
  obtain ⟨f1, c, rfl, e2, e3⟩ := LsF.snoc_inv w2
  have hl1 : f1.length = r.length * 3 := by
    have := LsF.len (fun a c h => oneFrm.len h) e2
    simpa using this
  exact ⟨h.reslice (x' := { x with way := r }) hf (h.box.stored hW (Nat.le_of_ble_eq_true rfl)) rfl (ownsRow_pop hl1 w1) e2 p1 p2 (fun k hk => hk) (fun k hk => hk), h.keep hf⟩
theorem SrchV.popPath {g cap n : Nat} (h : SrchV I vm o b0 X Sb mb F P Q L vw (.slice (some ⟨g, 0, none⟩) (n + 1) cap) w0 x w) (hx : x.path.length = n + 1) (hW : w' = setR w X 12 [.slice (some ⟨g, 0, none⟩) n cap]) : SrchV I vm o b0 X Sb mb F P Q L vw (.slice (some ⟨g, 0, none⟩) n cap) w0 { x with path := x.path.dropLast } w' ∧ Keep (fun k => P k ∨ Q k) w w' := by
  have hf : Fr (fun q => q = X) w w' := by rw [hW]; exact Fr.setRX _ _ 12 _
  obtain ⟨fw, w1, w2⟩ := h.way
  obtain ⟨fp, p1, p2⟩ := h.path
  have hp : x.path = x.path.dropLast ++ [x.path.getLast (by intro e; rw [e] at hx; simp at hx)] := (List.dropLast_concat_getLast _).symm
  rw [hp] at p2
  obtain ⟨f1, c, rfl, e2, e3⟩ := LsF.snoc_inv p2
  have hdl : x.path.dropLast.length = n := by rw [List.length_dropLast, hx]; rfl
  have hl1 : f1.length = n * 9 := by
    have := LsF.len (fun a c h => oneMv.len h) e2
    rw [hdl] at this
    exact this
  rw [hx] at p1
  have h1 := ownsRow_pop hl1 p1
  refine ⟨h.reslice (x' := { x with path := x.path.dropLast }) hf (h.box.stored hW (Nat.le_of_ble_eq_true rfl)) rfl w1 w2 ?_ e2 (fun k hk => hk) (fun k hk => hk), h.keep hf⟩
  show w.ownsRow b0 _ 9 _ x.path.dropLast.length f1
  rw [hdl]
  exact h1
theorem SrchV.nilPath (h : SrchV I vm o b0 X Sb mb F P Q L vw vp w0 x w) (hW : w' = setR w X 12 [.slice none 0 0]) : SrchV I vm o b0 X Sb mb F P Q L vw (.slice none 0 0) w0 { x with path := [] } w' ∧ Keep (fun k => P k ∨ Q k) w w' := by
  have hf : Fr (fun q => q = X) w w' := by rw [hW]; exact Fr.setRX _ _ 12 _
  obtain ⟨fw, w1, w2⟩ := h.way
  exact ⟨h.reslice (x' := { x with path := [] }) hf (h.box.stored hW (Nat.le_of_ble_eq_true rfl)) rfl w1 w2 (World.ownsRow_nil _ _ _ _) rfl (fun k hk => hk) (fun k hk => by cases hk), h.keep hf⟩
theorem SrchV.recl {cl' : List (List PMove)} (h : SrchV I vm o b0 X Sb mb F P Q L vw vp w0 x w) : SrchV I vm o b0 X Sb mb F P Q L vw vp w0 { x with cl := cl' } w := ⟨h.below, h.box, h.met, h.on, h.way, h.path, h.sep, h.dis, h.lo, h.lop⟩
/-- Other locals. -/
theorem SrchV.locals {Q' : Nat → Prop} (h : SrchV I vm o b0 X Sb mb F P Q L vw vp w0 x w) (hQ : ∀ k, Q' k → Q k) : SrchV I vm o b0 X Sb mb F P Q' L vw vp w0 x w := h.wider (fun k hk => hk) (fun k hk => h.lop k (hQ k hk)) fun k hk => h.sep k (hk.imp id (hQ k))
theorem SrchV.local_ {b : Nat} (h : SrchV I vm o b0 X Sb mb F P Q L vw vp w0 x w) {w1 : World} (hb : Below w.heap.size w w1) (h1 : w.heap.size ≤ b) (h2 : b < w1.heap.size) : SrchV I vm o b0 X Sb mb F P (fun k => Q k ∨ k = b) L vw vp w0 x w1 := by
  have h3 := h.fresh hb
  obtain ⟨fw, q1, _⟩ := h.way
  obtain ⟨fp, q2, _⟩ := h.path
  have hlt := h.box.lt
  have hlt2 := h.on.lt
  refine h3.wider (fun k hk => hk) (fun k hk hP => ?_) fun k hk => ?_
  · rcases hk with hk | rfl
    · exact h.lop k hk hP
    · have := (h.sep k (.inl hP)).1; omega
  · rcases hk with hk | hk | rfl
    · exact h3.sep k (.inl hk)
    · exact h3.sep k (.inr hk)
    · refine ⟨h2, fun hF => ?_, fun e => ?_, fun e => ?_, fun e => ?_, fun e => ?_⟩
      · have := (h.met.lt k hF).2; omega
      · omega
      · omega
      · have := owns_lt q1 k e; omega
      · have := owns_lt q2 k e; omega
/-- The search, begun. -/
theorem SrchV.begun {w1 : World} (hb : Below b0 w0 w) (h0 : b0 ≤ w0.heap.size) (hx : Holds w X 64 (srC I vm o Sb mb (.slice none 0 0) (.slice none 0 0) 0 0 0 (.slice none 0 0) 0 0 0)) (hm : St.StoreAt w b0 Sb [] o.states o.bytes F) (ho : Mp.BMap w mb 1000001 (fun _ => none)) (hF : ∀ k, F k → b0 ≤ k) (d1 : ¬ F X) (d2 : ¬ F mb) (l1 : b0 ≤ X) (l2 : b0 ≤ mb) (hQ : ∀ k, Q k → k < w.heap.size ∧ ¬ F k ∧ k ≠ X ∧ k ≠ mb) :
    SrchV I vm o b0 X Sb mb F (fun _ => False) Q [] (.slice none 0 0) (.slice none 0 0) w0 ⟨[], [], [], [], 0, 0, 0⟩ w := by
  refine ⟨hb, hx, hm, ?_, ⟨[], World.ownsRow_nil _ _ _ _, rfl⟩, ⟨[], World.ownsRow_nil _ _ _ _, rfl⟩, fun k hk => ?_, ⟨d1, d2, fun k hk => (by cases hk), fun k hk => (by cases hk)⟩, ⟨l1, l2, h0⟩, fun k _ h => h⟩
  · have e : onP [] = fun _ => none := by funext n; unfold onP; rw [if_neg (by simp)]
    rw [e]; exact ho
  · rcases hk with hk | hk
    · exact hk.elim
    · obtain ⟨q1, q2, q3, q4⟩ := hQ k hk
      exact ⟨q1, q2, q3, q4, by simp [Value.ownBlock], by simp [Value.ownBlock]⟩
end
theorem Inv.bounds {S : Sys} {o : POpt} {x : Sr} (h : Inv S o x) {M : Nat} (hM : x.sts.length ≤ M) (hM1 : M ≤ 999999) (hs : ∀ s ∈ x.sts, (S.next s).length ≤ 2000000) : x.moves ≤ 2000000000000 ∧ x.deep ≤ 999999 ∧ x.path.length ≤ 999999 ∧ x.way.length ≤ 999999 := by
  have h1 := h.way_le
  have h2 := h.path_len
  have h3 := h.deep
  refine ⟨?_, by omega, by omega, by omega⟩
  rw [h.mv]
  have hle : ∀ n ∈ x.cl.map List.length, n ≤ 2000000 := fun n hn => by
    obtain ⟨l, hl, rfl⟩ := List.mem_map.1 hn
    obtain ⟨i, hi⟩ := List.getElem?_of_mem hl
    have hil : i < x.sts.length := by rw [← h.cll]; exact (List.getElem?_eq_some_iff.1 hi).1
    have h5 := h.sub i _ l (List.getElem?_eq_getElem hil) hi
    exact Nat.le_trans h5.2.2 (hs _ (List.getElem_mem hil))
  have hsum : ∀ l : List Nat, (∀ n ∈ l, n ≤ 2000000) → l.sum ≤ l.length * 2000000 := fun l => by
    induction l with
    | nil => intro _; simp
    | cons a l ih =>
      intro h
      have h1 := ih fun n hn => h n (List.mem_cons_of_mem _ hn)
      have h2 := h a List.mem_cons_self
      rw [List.sum_cons, List.length_cons, Nat.succ_mul]
      omega
  have h6 := hsum _ hle
  rw [List.length_map, h.cll] at h6
  have : x.sts.length * 2000000 ≤ 999999 * 2000000 := Nat.mul_le_mul_right _ (by omega)
  omega
theorem rch_small {S : Sys} (hS : SmallS S) {s : ByteArray} (h : Rch S s) : s.size ≤ 1048576 := by
  induction h with
  | beg => exact hS.beg
  | step _ hm _ ih => exact hS.dsts _ ih _ hm
/-- A move comes onto the path, in a region that draws its order: how far it is. -/
def PathW (A : World → Prop) (LIT : Nat → World → Prop) (B D : Value → World → Prop) (l4 l5 l6 l7 l10 : Bool) (r : Nat × Value) (w : World) : Prop :=
  (l6 = true → l5 = true) ∧ (l7 = true → l4 = true ∧ l6 = true) ∧ (l10 = true → l7 = true) ∧ (l10 = true → D r.2 w) ∧ (l10 = false → l7 = true → B r.2 w) ∧ (l7 = false → A w ∧ (l6 = true → LIT r.1 w))
section
variable {A : World → Prop} {LIT : Nat → World → Prop} {B D : Value → World → Prop} {l4 l5 l6 l7 l10 : Bool} {r : Nat × Value} {w w' : World}
theorem PathW.start (h : A w) : PathW A LIT B D false false false false false r w := ⟨fun h => (by cases h), fun h => (by cases h), fun h => (by cases h), fun h => (by cases h), fun _ h => (by cases h), fun _ => ⟨h, fun h => (by cases h)⟩⟩
theorem PathW.last {n : Nat} (h : PathW A LIT B D ((Array.replicate n true).getD 4 false) ((Array.replicate n true).getD 5 false) ((Array.replicate n true).getD 6 false) ((Array.replicate n true).getD 7 false) ((Array.replicate n true).getD 10 false) r w) (hn : 10 < n := by decide) : D r.2 w := by
  refine h.2.2.2.1 ?_
  rw [Array.getD_eq_getD_getElem?, Array.getElem?_replicate, if_pos hn]
  rfl
theorem PathW.set4 (h : PathW A LIT B D l4 l5 l6 l7 l10 r w) : PathW A LIT B D true l5 l6 l7 l10 r w := ⟨h.1, fun q => ⟨rfl, (h.2.1 q).2⟩, h.2.2⟩
theorem PathW.set5 (h : PathW A LIT B D l4 l5 l6 l7 l10 r w) : PathW A LIT B D l4 true l6 l7 l10 r w := ⟨fun _ => rfl, h.2⟩
theorem PathW.at4 (h : PathW A LIT B D false l5 l6 l7 l10 r w) : A w := by
  cases l7 with
  | false => exact (h.2.2.2.2.2 rfl).1
  | true => have := (h.2.1 rfl).1; cases this
theorem PathW.at5 (h : PathW A LIT B D l4 false l6 l7 l10 r w) : A w := by
  cases l7 with
  | false => exact (h.2.2.2.2.2 rfl).1
  | true => have := h.1 (h.2.1 rfl).2; cases this
theorem PathW.lit {b : Nat} (h : PathW A LIT B D l4 l5 false l7 l10 r w) (h5 : l5 = true) (hA : A w → A w' ∧ LIT b w') : PathW A LIT B D l4 l5 true l7 l10 (b, r.2) w' := by
  cases l7 with
  | true => have := (h.2.1 rfl).2; cases this
  | false =>
    have h1 := hA (h.2.2.2.2.2 rfl).1
    exact ⟨fun _ => h5, fun q => (by cases q), fun q => (by have := h.2.2.1 q; cases this), fun q => (by have := h.2.2.1 q; cases this), fun _ q => (by cases q), fun _ => ⟨h1.1, fun _ => h1.2⟩⟩
theorem PathW.app {v : Value} (h : PathW A LIT B D l4 l5 l6 false l10 r w) (h4 : l4 = true) (h6 : l6 = true) (hB : A w → LIT r.1 w → B v w') : PathW A LIT B D l4 l5 l6 true l10 (r.1, v) w' := by
  have h1 := h.2.2.2.2.2 rfl
  exact ⟨h.1, fun _ => ⟨h4, h6⟩, fun _ => rfl, fun q => (by have := h.2.2.1 q; cases this), fun _ _ => hB h1.1 (h1.2 h6), fun q => (by cases q)⟩
theorem PathW.store (h : PathW A LIT B D l4 l5 l6 l7 false r w) (h7 : l7 = true) (hD : B r.2 w → D r.2 w') : PathW A LIT B D l4 l5 l6 l7 true r w' :=
  ⟨h.1, h.2.1, fun _ => h7, fun _ => hD (h.2.2.2.2.1 rfl h7), fun q => (by cases q), fun q => (by rw [h7] at q; cases q)⟩
end
/-- An append, in a region that draws its order. -/
theorem rho_append {P : Program} {ops : Array Oper} {Q : Exit → Act → World → Prop} {R : Type} {val : R → Nat → Value} {Wv : R → Array Bool → World → Prop} {a : Act} {n : Nat} {sl : List (Nat × Nat)} {i : Nat} {o : Oper} (s x : Operand) (t : TypeId) (hi : ops[i]? = some o) (ho : o.op = .call { callee := .builtin .append, args := #[s, x], argTypes := #[t, t] })
    (h : ∀ (r : R) (L : Array Bool) (b : Act) (w : World), L.size = ops.size → L.getD i false = false → Reads ops val sl n a o r L b → Wv r L w →
      ∃ r' w' v y, (∀ j, L.getD j false = true → val r' j = val r j) ∧ b.eval s = v ∧ b.eval x = y ∧ (Builtin.append_ #[t, t] o.type #[v, y]).run P w = .ok (val r' i) w' ∧ Wv r' (L.setIfInBounds i true) w') : RhoOp P ops Q val Wv a n sl i :=
  ⟨o, hi, fun r L b w K hs hl hR hw hK => by
    obtain ⟨r', w', v, y, h1, h2, h3, h4, h5⟩ := h r L b w hs hl hR hw
    unfold Oper.wp execOp
    simp only [ho, resolve, invoke, builtin, Sem.run_bind, Sem.run_pure, Result.andThen_ok, List.map_toArray, List.map_cons, List.map_nil, h2, h3, h4]
    exact hK r' w' h1 h5⟩
/-- The search is laid, in a region that draws its order: how far it is. -/
def BegW (I : Ifc) (vm : Value) (o : POpt) (b0 : Nat) (w1 : World) (l7 l8 l10 l11 l12 : Bool) (r : Nat × Nat × Nat × (Nat → Prop)) (w : World) : Prop :=
  Below w1.heap.size w1 w ∧ (l7 = true → St.StoreAt w b0 r.1 [] o.states o.bytes r.2.2.2 ∧ ∀ k, r.2.2.2 k → w1.heap.size ≤ k) ∧ (l8 = true → Mp.BMap w r.2.1 1000001 (fun _ => none) ∧ w1.heap.size ≤ r.2.1) ∧ (l7 = true → l8 = true → ¬ r.2.2.2 r.2.1) ∧
    (l10 = true → l7 = true ∧ l8 = true) ∧ (l11 = true → l10 = true ∧ Holds w r.2.2.1 64 (srC I vm o r.1 r.2.1 (.slice none 0 0) (.slice none 0 0) 0 0 0 (.slice none 0 0) 0 0 0) ∧ w1.heap.size ≤ r.2.2.1 ∧ ¬ r.2.2.2 r.2.2.1) ∧ (l12 = true → l11 = true)
theorem PathW.first {A : World → Prop} {LIT : Nat → World → Prop} {B D : Value → World → Prop} {r : Nat × Value} {w : World} (n : Nat) (h : A w) : PathW A LIT B D ((Array.replicate n false).getD 4 false) ((Array.replicate n false).getD 5 false) ((Array.replicate n false).getD 6 false) ((Array.replicate n false).getD 7 false) ((Array.replicate n false).getD 10 false) r w := by
  have e : ∀ i, (Array.replicate n false).getD i false = false := fun i => by
    rw [Array.getD_eq_getD_getElem?, Array.getElem?_replicate]
    split <;> rfl
  simp only [e]
  exact PathW.start h
section
variable {I : Ifc} {vm : Value} {o : POpt} {b0 : Nat} {w1 : World} {l7 l8 l10 l11 l12 : Bool} {r : Nat × Nat × Nat × (Nat → Prop)} {w w' : World}
theorem BegW.start : BegW I vm o b0 w1 false false false false false r w1.drew := ⟨⟨rfl, rfl, rfl, Nat.le_refl _, fun _ _ => rfl⟩, fun h => (by cases h), fun h => (by cases h), fun h => (by cases h), fun h => (by cases h), fun h => (by cases h), fun h => (by cases h)⟩
theorem rep_false (n i : Nat) : (Array.replicate n false).getD i false = false := by
  rw [Array.getD_eq_getD_getElem?, Array.getElem?_replicate]
  split <;> rfl
theorem BegW.first (n : Nat) : BegW I vm o b0 w1 ((Array.replicate n false).getD 7 false) ((Array.replicate n false).getD 8 false) ((Array.replicate n false).getD 10 false) ((Array.replicate n false).getD 11 false) ((Array.replicate n false).getD 12 false) r w1.drew := by
  simp only [rep_false]
  exact BegW.start
theorem BegW.n7 (h : BegW I vm o b0 w1 false l8 l10 l11 l12 r w) : l10 = false ∧ l11 = false := by
  have h10 : l10 = false := by
    cases l10 with
    | false => rfl
    | true => have := (h.2.2.2.2.1 rfl).1; cases this
  subst h10
  refine ⟨rfl, ?_⟩
  cases l11 with
  | false => rfl
  | true => have := (h.2.2.2.2.2.1 rfl).1; cases this
theorem BegW.n8 (h : BegW I vm o b0 w1 l7 false l10 l11 l12 r w) : l10 = false ∧ l11 = false := by
  have h10 : l10 = false := by
    cases l10 with
    | false => rfl
    | true => have := (h.2.2.2.2.1 rfl).2; cases this
  subst h10
  refine ⟨rfl, ?_⟩
  cases l11 with
  | false => rfl
  | true => have := (h.2.2.2.2.2.1 rfl).1; cases this
theorem BegW.new {Sb : Nat} {F : Nat → Prop} (h : BegW I vm o b0 w1 false l8 l10 l11 l12 r w) (hm : St.StoreAt w' b0 Sb [] o.states o.bytes F) (hb : Below w.heap.size w w') (hF : ∀ k, F k → w.heap.size ≤ k) : BegW I vm o b0 w1 true l8 l10 l11 l12 (Sb, r.2.1, r.2.2.1, F) w' := by
  obtain ⟨rfl, rfl⟩ := h.n7
  refine ⟨h.1.trans (hb.mono h.1.size), fun _ => ⟨hm, fun k hk => Nat.le_trans h.1.size (hF k hk)⟩, fun q => ⟨(h.2.2.1 q).1.of_eq (hb.block _ (h.2.2.1 q).1.lt), (h.2.2.1 q).2⟩, fun _ q hk => ?_, fun q => (by cases q), fun q => (by cases q), h.2.2.2.2.2.2⟩
  have h1 := (h.2.2.1 q).1.lt
  have h2 : w.heap.size ≤ r.2.1 := hF _ hk
  omega
theorem BegW.map_ (h : BegW I vm o b0 w1 l7 false l10 l11 l12 r w) : BegW I vm o b0 w1 l7 true l10 l11 l12 (r.1, w.heap.size, r.2.2.1, r.2.2.2) (w.alloc (.map #[] 0)) := by
  obtain ⟨rfl, rfl⟩ := h.n8
  have hb : Below w.heap.size w (w.alloc (.map #[] 0)) := (Below.refl _ _).alloc (Nat.le_refl _) _
  refine ⟨h.1.trans (hb.mono h.1.size), fun q => ⟨(h.2.1 q).1.below hb, (h.2.1 q).2⟩, fun _ => ⟨Mp.BMap.new w 1000001, h.1.size⟩, fun q _ hk => ?_, fun q => (by cases q), fun q => (by cases q), h.2.2.2.2.2.2⟩
  exact Nat.lt_irrefl _ ((h.2.1 q).1.lt _ hk).2
theorem BegW.set10 (h : BegW I vm o b0 w1 l7 l8 l10 l11 l12 r w) (h7 : l7 = true) (h8 : l8 = true) : BegW I vm o b0 w1 l7 l8 true l11 l12 r w := ⟨h.1, h.2.1, h.2.2.1, h.2.2.2.1, fun _ => ⟨h7, h8⟩, fun q => ⟨rfl, (h.2.2.2.2.2.1 q).2⟩, h.2.2.2.2.2.2⟩
theorem BegW.box (h : BegW I vm o b0 w1 l7 l8 l10 false l12 r w) (h10 : l10 = true) : BegW I vm o b0 w1 l7 l8 l10 true l12 (r.1, r.2.1, w.heap.size, r.2.2.2) (w.alloc (.cells (srC I vm o r.1 r.2.1 (.slice none 0 0) (.slice none 0 0) 0 0 0 (.slice none 0 0) 0 0 0).toArray 64)) := by
  obtain ⟨h7, h8⟩ := h.2.2.2.2.1 h10
  have hb : Below w.heap.size w (w.alloc (.cells (srC I vm o r.1 r.2.1 (.slice none 0 0) (.slice none 0 0) 0 0 0 (.slice none 0 0) 0 0 0).toArray 64)) := (Below.refl _ _).alloc (Nat.le_refl _) _
  refine ⟨h.1.trans (hb.mono h.1.size), fun q => ⟨(h.2.1 q).1.below hb, (h.2.1 q).2⟩, fun q => ⟨(h.2.2.1 q).1.of_eq (hb.block _ (h.2.2.1 q).1.lt), (h.2.2.1 q).2⟩, h.2.2.2.1, h.2.2.2.2.1, fun _ => ⟨h10, Holds.new w _ _, h.1.size, fun hk => ?_⟩, fun _ => rfl⟩
  exact Nat.lt_irrefl _ ((h.2.1 h7).1.lt _ hk).2
theorem BegW.n11 (h : BegW I vm o b0 w1 l7 l8 l10 false l12 r w) : l12 = false := by
  cases l12 with
  | false => rfl
  | true => have := h.2.2.2.2.2.2 rfl; cases this
theorem BegW.set12 (h : BegW I vm o b0 w1 l7 l8 l10 l11 l12 r w) (h11 : l11 = true) : BegW I vm o b0 w1 l7 l8 l10 l11 true r w := ⟨h.1, h.2.1, h.2.2.1, h.2.2.2.1, h.2.2.2.2.1, h.2.2.2.2.2.1, fun _ => h11⟩
end
end Go.Proofs.Ytpednhcfkjjcpaa.G
