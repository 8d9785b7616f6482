/- The search as it lies in memory, and what turns it. -/
import Derived.Test.YtpednhcfkjjcpaaMg11
import Derived.Test.YtpednhcfkjjcpaaUpl
import Derived.Test.YtpednhcfkjjcpaaSt3
import Derived.Test.YtpednhcfkjjcpaaBmp
import Derived.WalkSmall
namespace Go.Proofs.Ytpednhcfkjjcpaa.G
open Go.RowKit Go.Maps
set_option linter.unusedVariables false
set_option linter.unusedSimpArgs false

theorem LsF.snoc_inv {A : Type} {F : (Nat → Prop) → World → A → List Value → Prop} {P : Nat → Prop} {w : World} : ∀ {l : List A} {a : A} {f : List Value}, LsF F P w (l ++ [a]) f → ∃ f1 c, f = f1 ++ c ∧ LsF F P w l f1 ∧ F P w a c
  | [], a, f, ⟨c, g, h1, h2, h3⟩ => by
    have h3 : g = [] := h3
    subst h3
    exact ⟨[], c, by rw [h1]; simp, rfl, h2⟩
  | b :: l, a, f, ⟨c, g, h1, h2, h3⟩ => by
    obtain ⟨f1, c1, e1, e2, e3⟩ := LsF.snoc_inv (l := l) h3
    exact ⟨c ++ f1, c1, by rw [h1, e1, List.append_assoc], ⟨c, f1, rfl, h2, e2⟩, e3⟩
theorem LsF.len {A : Type} {F : (Nat → Prop) → World → A → List Value → Prop} {P : Nat → Prop} {w : World} {n : Nat} (hl : ∀ a c, F P w a c → c.length = n) : ∀ {l : List A} {f : List Value}, LsF F P w l f → f.length = l.length * n
  | [], f, h => by
    have h : f = [] := h
    subst h
    simp
  | a :: l, f, ⟨c, g, h1, h2, h3⟩ => by
    rw [h1, List.length_append, hl _ _ h2, LsF.len hl h3, List.length_cons, Nat.succ_mul, Nat.add_comm]
theorem MvsV.lenS {P : Nat → Prop} {w : World} {v : Value} {l : List PMove} (h : MvsV P w v l) : ∃ a c, v = .slice a l.length c ∧ l.length ≤ c := by
  obtain ⟨f, hr, _⟩ := h
  obtain ⟨a, c, he, hc, _⟩ := hr.form
  exact ⟨a, c, he, hc⟩
/-- A frame in memory. -/
def FrmF (P : Nat → Prop) (w : World) (f : Frm) (c : List Value) : Prop := ∃ vl, c = [.int .i64 (f.n : Int), vl, .int .i64 (f.k : Int)] ∧ MvsV P w vl f.l
theorem MvsV.one {P : Nat → Prop} {w : World} {v : Value} {l : List PMove} (h : MvsV P w v l) : v.oneCell' = true := by
  obtain ⟨f, h1, _⟩ := h
  exact h1.cell1
theorem oneFrm : One FrmF 3 := ⟨fun ⟨vl, h, _⟩ => by rw [h]; rfl, fun ⟨vl, h, h2⟩ => by
  have q1 := h2.one
  rw [h]
  simp [q1]
  simp [Value.oneCell'], fun hu ⟨vl, h1, h2⟩ => ⟨vl, h1, h2.up hu⟩⟩
theorem FrmF.mono {P Q : Nat → Prop} {w : World} (hl : Wide P Q w) {f : Frm} {c : List Value} (h : FrmF P w f c) : FrmF Q w f c := by
  obtain ⟨vl, h1, h2⟩ := h
  exact ⟨vl, h1, h2.mono hl⟩
/-- The search's cells. -/
def srC (I : Ifc) (vm : Value) (o : POpt) (Sb mb : Nat) (vw vp : Value) (lim : Int) (fv fy : Int) (fp : Value) (fs fm fd : Nat) : List Value := [.iface I.tid I.dyn, vm, .int .i64 o.depth, .int .i64 o.states, .int .i64 o.bytes, .bool o.ends, .bool o.prog, .bool o.ample, .int .u64 (o.vis : Int), .pointer (some ⟨Sb, 0, none⟩), .map (some mb), vw, vp, .int .i64 lim, .int .i64 fv, .int .i64 fy, fp, .int .i64 (-1), .int .i64 (fs : Int), .int .i64 (fm : Int), .int .i64 (fd : Int)]
/-- The numbers on the way. -/
def onP (l : List Nat) (n : Nat) : Option Unit := if n ∈ l then some () else none
structure SrchV (I : Ifc) (vm : Value) (o : POpt) (b0 X Sb mb : Nat) (F P Q : Nat → Prop) (L : List Nat) (vw vp : Value) (w0 : World) (x : Sr) (w : World) : Prop where
  below : Below b0 w0 w
  box : Holds w X 64 (srC I vm o Sb mb vw vp x.limit 0 0 (.slice none 0 0) 0 x.moves x.deep)
  met : St.StoreAt w b0 Sb x.sts o.states o.bytes F
  on : Mp.BMap w mb 1000001 (onP L)
  way : ∃ fw, w.ownsRow b0 73 3 vw x.way.length fw ∧ LsF FrmF P w x.way.reverse fw
  path : ∃ fp, w.ownsRow b0 75 9 vp x.path.length fp ∧ LsF MvF P w x.path fp
  sep : ∀ k, P k ∨ Q k → k < w.heap.size ∧ ¬ F k ∧ k ≠ X ∧ k ≠ mb ∧ vw.ownBlock ≠ some k ∧ vp.ownBlock ≠ some k
  dis : ¬ F X ∧ ¬ F mb ∧ (∀ k, vw.ownBlock = some k → ¬ F k) ∧ ∀ k, vp.ownBlock = some k → ¬ F k
  lo : b0 ≤ X ∧ b0 ≤ mb ∧ b0 ≤ w0.heap.size
  lop : ∀ k, Q k → ¬ P k
section
variable {I : Ifc} {vm : Value} {o : POpt} {b0 X Sb mb : Nat} {F P Q : Nat → Prop} {L : List Nat} {vw vp : Value} {w0 w w' : World} {x : Sr}
theorem SrchV.size (h : SrchV I vm o b0 X Sb mb F P Q L vw vp w0 x w) : b0 ≤ w.heap.size := Nat.le_trans h.lo.2.2 h.below.size
theorem SrchV.onX (h : SrchV I vm o b0 X Sb mb F P Q L vw vp w0 x w) : mb ≠ X := by
  obtain ⟨es, c, e⟩ := h.on.obj
  rintro rfl
  have h2 := h.box
  unfold Holds at h2
  rw [e] at h2
  cases h2
theorem row_not_map {base : Nat} {e : TypeId} {size n m : Nat} {v : Value} {xs : List Value} {f : Nat → Option Unit} {N : Nat} (h : w.ownsRow base e size v n xs) (hm : Mp.BMap w m N f) : v.ownBlock ≠ some m := fun he => by
  obtain ⟨es, c, e1⟩ := hm.obj
  obtain ⟨cs, hh⟩ := owns_holds h he
  unfold Holds at hh
  rw [e1] at hh
  cases hh
/-- What has been written lies aside. -/
theorem SrchV.fr {G : Nat → Prop} (h : SrchV I vm o b0 X Sb mb F P Q L vw vp w0 x w) (hf : Fr G w w') (hG : ∀ k, k < w.heap.size → G k → b0 ≤ k ∧ k ≠ X ∧ ¬ F k ∧ k ≠ mb ∧ vw.ownBlock ≠ some k ∧ vp.ownBlock ≠ some k ∧ ¬ P k) : SrchV I vm o b0 X Sb mb F P Q L vw vp w0 x w' := by
  obtain ⟨fw, w1, w2⟩ := h.way
  obtain ⟨fp, p1, p2⟩ := h.path
  have hK : Keep P w w' := fun k hk hs => hf.block k hs fun hg => (hG k hs hg).2.2.2.2.2.2 hk
  have hf2 : Fr (fun k => G k ∧ k < w.heap.size) w w' := ⟨hf.os, hf.tape, hf.output, hf.size, fun k hk hn => hf.block k hk fun hg => hn ⟨hg, hk⟩⟩
  refine ⟨h.below.trans (hf.to_below h.size fun k hk hg => ?_), hf.holds h.box fun hg => (hG X h.box.lt hg).2.1 rfl, h.met.fr hf2 fun k hk hg => (hG k hg.2 hg.1).2.2.1 hk, h.on.of_eq (hf.block _ h.on.lt fun hg => (hG _ h.on.lt hg).2.2.2.1 rfl), ⟨fw, hf2.owns w1 fun g hg hgg => (hG g hgg.2 hgg.1).2.2.2.2.1 hg, LsF.up (fun _ _ => oneFrm.up hK) _ w2⟩, ⟨fp, hf2.owns p1 fun g hg hgg => (hG g hgg.2 hgg.1).2.2.2.2.2.1 hg, LsF.up (fun _ _ => oneMv.up hK) _ p2⟩, fun k hk => ⟨Nat.lt_of_lt_of_le (h.sep k hk).1 hf.size, (h.sep k hk).2⟩, h.dis, h.lo, h.lop⟩
  have h1 := h.size
  have := (hG k (by omega) hg).1
  omega
theorem SrchV.fresh (h : SrchV I vm o b0 X Sb mb F P Q L vw vp w0 x w) (hb : Below w.heap.size w w') : SrchV I vm o b0 X Sb mb F P Q L vw vp w0 x w' := h.fr (Fr.of_below hb (fun _ => False)) fun k _ hk => hk.elim
/-- The search's own cells have turned, its rows have not. -/
theorem SrchV.rebox {x' : Sr} (h : SrchV I vm o b0 X Sb mb F P Q L vw vp w0 x w) (hf : Fr (fun q => q = X) w w') (hb : Holds w' X 64 (srC I vm o Sb mb vw vp x'.limit 0 0 (.slice none 0 0) 0 x'.moves x'.deep)) (e1 : x'.sts = x.sts) (e2 : x'.way = x.way) (e3 : x'.path = x.path) : SrchV I vm o b0 X Sb mb F P Q L vw vp w0 x' w' := by
  obtain ⟨fw, w1, w2⟩ := h.way
  obtain ⟨fp, p1, p2⟩ := h.path
  have hK : Keep P w w' := fun k hk hs => hf.block k hs fun hg => (h.sep k (.inl hk)).2.2.1 hg
  refine ⟨h.below.trans (hf.to_below h.size fun k hk hg => ?_), hb, ?_, ?_, ⟨fw, ?_, ?_⟩, ⟨fp, ?_, ?_⟩, fun k hk => ⟨Nat.lt_of_lt_of_le (h.sep k hk).1 hf.size, (h.sep k hk).2⟩, h.dis, h.lo, h.lop⟩
  · have hg : k = X := hg
    have := h.lo.1
    omega
  · rw [e1]; exact h.met.fr hf fun k hk hg => h.dis.1 (by have hg : k = X := hg; rw [← hg]; exact hk)
  · exact h.on.of_eq (hf.block _ h.on.lt h.onX)
  · rw [e2]; exact hf.owns w1 fun g hg hgg => owns_ne_holds w1 h.box (by decide) (by have hgg : g = X := hgg; rw [← hgg]; exact hg)
  · rw [e2]; exact LsF.up (fun _ _ => oneFrm.up hK) _ w2
  · rw [e3]; exact hf.owns p1 fun g hg hgg => owns_ne_holds p1 h.box (by decide) (by have hgg : g = X := hgg; rw [← hgg]; exact hg)
  · rw [e3]; exact LsF.up (fun _ _ => oneMv.up hK) _ p2
/-- The states alone have grown. -/
theorem SrchV.stored {F' : Nat → Prop} {s : ByteArray} (h : SrchV I vm o b0 X Sb mb F P Q L vw vp w0 x w) (hm : St.StoreAt w' b0 Sb (x.sts ++ [s]) o.states o.bytes F') (hf : Fr F w w') (hF : ∀ k, F' k → F k ∨ w.heap.size ≤ k) : SrchV I vm o b0 X Sb mb F' P Q L vw vp w0 { x with sts := x.sts ++ [s] } w' := by
  obtain ⟨fw, w1, w2⟩ := h.way
  obtain ⟨fp, p1, p2⟩ := h.path
  have hK : Keep P w w' := fun k hk hs => hf.block k hs fun hg => (h.sep k (.inl hk)).2.1 hg
  have hlt := h.met.lt
  have hno : ∀ k, k < w.heap.size → ¬ F k → ¬ F' k := fun k hk hn hg => by
    rcases hF k hg with h1 | h1
    · exact hn h1
    · omega
  refine ⟨h.below.trans (hf.to_below h.size fun k hk hg => ?_), hf.holds h.box h.dis.1, hm, h.on.of_eq (hf.block _ h.on.lt h.dis.2.1), ⟨fw, hf.owns w1 h.dis.2.2.1, LsF.up (fun _ _ => oneFrm.up hK) _ w2⟩, ⟨fp, hf.owns p1 h.dis.2.2.2, LsF.up (fun _ _ => oneMv.up hK) _ p2⟩, fun k hk => ⟨Nat.lt_of_lt_of_le (h.sep k hk).1 hf.size, hno k (h.sep k hk).1 (h.sep k hk).2.1, (h.sep k hk).2.2⟩, ⟨hno _ h.box.lt h.dis.1, hno _ h.on.lt h.dis.2.1, fun k hk => hno k (owns_lt w1 k hk) (h.dis.2.2.1 k hk), fun k hk => hno k (owns_lt p1 k hk) (h.dis.2.2.2 k hk)⟩, h.lo, h.lop⟩
  have := (hlt k hg).1
  omega
/-- The map alone has turned. -/
theorem SrchV.mapped {L' : List Nat} (h : SrchV I vm o b0 X Sb mb F P Q L vw vp w0 x w) (hm : Mp.BMap w' mb 1000001 (onP L')) (hg : w.grownBy w' (some mb)) : SrchV I vm o b0 X Sb mb F P Q L' vw vp w0 x w' := by
  have hf : Fr (fun q => q = mb) w w' := (Fr.refl _ _).grown hg fun k hk _ => (Option.some.inj hk).symm
  obtain ⟨fw, w1, w2⟩ := h.way
  obtain ⟨fp, p1, p2⟩ := h.path
  have hK : Keep P w w' := fun k hk hs => hf.block k hs fun hg => (h.sep k (.inl hk)).2.2.2.1 hg
  refine ⟨h.below.trans (hf.to_below h.size fun k hk hg => ?_), hf.holds h.box fun e => h.onX e.symm, h.met.fr hf fun k hk hg => h.dis.2.1 (by have hg : k = mb := hg; rw [← hg]; exact hk), hm, ⟨fw, hf.owns w1 fun g hg hgg => row_not_map w1 h.on (by have hgg : g = mb := hgg; rw [← hgg]; exact hg), LsF.up (fun _ _ => oneFrm.up hK) _ w2⟩, ⟨fp, hf.owns p1 fun g hg hgg => row_not_map p1 h.on (by have hgg : g = mb := hgg; rw [← hgg]; exact hg), LsF.up (fun _ _ => oneMv.up hK) _ p2⟩, fun k hk => ⟨Nat.lt_of_lt_of_le (h.sep k hk).1 hf.size, (h.sep k hk).2⟩, h.dis, h.lo, h.lop⟩
  have hg : k = mb := hg
  have := h.lo.2.1
  omega
theorem onP_put {L : List Nat} {n : Nat} : Mp.upd (onP L) n (some ()) = onP (n :: L) := by
  funext y
  unfold Mp.upd onP
  by_cases e : y = n
  · rw [if_pos e, if_pos (by rw [e]; exact List.mem_cons_self)]
  · rw [if_neg e]
    by_cases h : y ∈ L
    · rw [if_pos h, if_pos (List.mem_cons_of_mem _ h)]
    · rw [if_neg h, if_neg fun h2 => (List.mem_cons.1 h2).elim e h]
theorem onP_del {L : List Nat} {n : Nat} (hn : n ∉ L) : Mp.upd (onP (n :: L)) n none = onP L := by
  funext y
  unfold Mp.upd onP
  by_cases e : y = n
  · rw [if_pos e, if_neg (by rw [e]; exact hn)]
  · rw [if_neg e]
    by_cases h : y ∈ L
    · rw [if_pos h, if_pos (List.mem_cons_of_mem _ h)]
    · rw [if_neg h, if_neg fun h2 => (List.mem_cons.1 h2).elim e h]
theorem rows_ne {base base' : Nat} {e e' : TypeId} {s s' n n' : Nat} {v v' : Value} {xs xs' : List Value} (h : w.ownsRow base e s v n xs) (h' : w.ownsRow base' e' s' v' n' xs') (hne : e ≠ e') : ∀ k, v.ownBlock = some k → v'.ownBlock ≠ some k := fun k hk hk' => by
  obtain ⟨cs, hh⟩ := owns_holds h' hk'
  exact owns_ne_holds h hh hne hk
/-- A frame comes on the way. -/
theorem SrchV.pushWay {vw' : Value} {fw c : List Value} {W4 W5 : World} {f : Frm} (h : SrchV I vm o b0 X Sb mb F P Q L vw vp w0 x w) (hr : w.ownsRow b0 73 3 vw x.way.length fw) (hfw : LsF FrmF P w x.way.reverse fw) (hy : FrmF P w f c)
    (hown : W4.ownsRow b0 73 3 vw' (x.way.length + 1) (fw ++ c)) (hgr : w.grownBy W4 vw.ownBlock) (hblk : vw'.ownBlock = vw.ownBlock ∨ vw'.ownBlock = some w.heap.size) (hW : W5 = setR W4 X 11 [vw']) : SrchV I vm o b0 X Sb mb F P Q L vw' vp w0 { x with way := f :: x.way } W5 := by
  obtain ⟨fp, p1, p2⟩ := h.path
  have hf4 : Fr (fun q => vw.ownBlock = some q) w W4 := (Fr.refl _ w).grown hgr fun q hq _ => hq
  have hb4 := hf4.holds h.box (owns_ne_holds hr h.box (by decide))
  have hf5 : Fr (fun q => q = X) W4 W5 := by rw [hW]; exact Fr.setRX _ _ 11 _
  have hf : Fr (fun q => q = X ∨ vw.ownBlock = some q) w W5 := (hf4.mono fun _ _ h => .inr h).trans hf5 fun q _ hq => .inl hq
  have hK : Keep P w W5 := fun k hk hs => hf.block k hs fun hg => hg.elim (h.sep k (.inl hk)).2.2.1 (h.sep k (.inl hk)).2.2.2.2.1
  have hnew : ∀ k, k < w.heap.size → vw'.ownBlock = some k → vw.ownBlock = some k := fun k hk he => by
    rcases hblk with hb | hb
    · rw [hb] at he; exact he
    · rw [hb] at he; injection he with he; omega
  refine ⟨h.below.trans (hf.to_below h.size fun k hk hg => ?_), hb4.stored hW (Nat.le_of_ble_eq_true rfl), h.met.fr hf fun k hk hg => ?_, h.on.of_eq (hf.block _ h.on.lt fun hg => hg.elim h.onX (row_not_map hr h.on)), ⟨fw ++ c, hf5.owns hown fun g hg hgg => owns_ne_holds hown hb4 (by decide) (by have hgg : g = X := hgg; rw [← hgg]; exact hg), ?_⟩, ⟨fp, hf.owns p1 fun g hg hgg => hgg.elim (fun e => owns_ne_holds p1 h.box (by decide) (by rw [← e]; exact hg)) (rows_ne p1 hr (by decide) g hg), LsF.up (fun _ _ => oneMv.up hK) _ p2⟩, fun k hk => ?_, ⟨h.dis.1, h.dis.2.1, fun k hk hF => ?_, h.dis.2.2.2⟩, h.lo, h.lop⟩
  · rcases hg with rfl | hg
    · have := h.lo.1; omega
    · have := owns_ge hr k hg; omega
  · rcases hg with rfl | hg
    · exact h.dis.1 hk
    · exact h.dis.2.2.1 k hg hk
  · rw [show (f :: x.way).reverse = x.way.reverse ++ [f] from List.reverse_cons]
    exact LsF.append (LsF.up (fun _ _ => oneFrm.up hK) _ hfw) (LsF.sing (oneFrm.up hK hy))
  · obtain ⟨q1, q2, q3, q4, q5, q6⟩ := h.sep k hk
    exact ⟨Nat.lt_of_lt_of_le q1 hf.size, q2, q3, q4, fun e => q5 (hnew k q1 e), q6⟩
  · have := h.met.lt k hF
    exact h.dis.2.2.1 k (hnew k this.2 hk) hF
/-- A move comes on the way. -/
theorem SrchV.pushPath {vp' : Value} {fp c : List Value} {W4 W5 : World} {m : PMove} (h : SrchV I vm o b0 X Sb mb F P Q L vw vp w0 x w) (hr : w.ownsRow b0 75 9 vp x.path.length fp) (hfp : LsF MvF P w x.path fp) (hy : MvF P w m c)
    (hown : W4.ownsRow b0 75 9 vp' (x.path.length + 1) (fp ++ c)) (hgr : w.grownBy W4 vp.ownBlock) (hblk : vp'.ownBlock = vp.ownBlock ∨ vp'.ownBlock = some w.heap.size) (hW : W5 = setR W4 X 12 [vp']) : SrchV I vm o b0 X Sb mb F P Q L vw vp' w0 { x with path := x.path ++ [m] } W5 := by
  obtain ⟨fw, w1, w2⟩ := h.way
  have hf4 : Fr (fun q => vp.ownBlock = some q) w W4 := (Fr.refl _ w).grown hgr fun q hq _ => hq
  have hb4 := hf4.holds h.box (owns_ne_holds hr h.box (by decide))
  have hf5 : Fr (fun q => q = X) W4 W5 := by rw [hW]; exact Fr.setRX _ _ 12 _
  have hf : Fr (fun q => q = X ∨ vp.ownBlock = some q) w W5 := (hf4.mono fun _ _ h => .inr h).trans hf5 fun q _ hq => .inl hq
  have hK : Keep P w W5 := fun k hk hs => hf.block k hs fun hg => hg.elim (h.sep k (.inl hk)).2.2.1 (h.sep k (.inl hk)).2.2.2.2.2
  have hnew : ∀ k, k < w.heap.size → vp'.ownBlock = some k → vp.ownBlock = some k := fun k hk he => by
    rcases hblk with hb | hb
    · rw [hb] at he; exact he
    · rw [hb] at he; injection he with he; omega
  refine ⟨h.below.trans (hf.to_below h.size fun k hk hg => ?_), hb4.stored hW (Nat.le_of_ble_eq_true rfl), h.met.fr hf fun k hk hg => ?_, h.on.of_eq (hf.block _ h.on.lt fun hg => hg.elim h.onX (row_not_map hr h.on)), ⟨fw, hf.owns w1 fun g hg hgg => hgg.elim (fun e => owns_ne_holds w1 h.box (by decide) (by rw [← e]; exact hg)) (rows_ne w1 hr (by decide) g hg), LsF.up (fun _ _ => oneFrm.up hK) _ w2⟩, ⟨fp ++ c, by rw [List.length_append]; exact hf5.owns hown fun g hg hgg => owns_ne_holds hown hb4 (by decide) (by have hgg : g = X := hgg; rw [← hgg]; exact hg), LsF.append (LsF.up (fun _ _ => oneMv.up hK) _ hfp) (LsF.sing (oneMv.up hK hy))⟩, fun k hk => ?_, ⟨h.dis.1, h.dis.2.1, h.dis.2.2.1, fun k hk hF => ?_⟩, h.lo, h.lop⟩
  · rcases hg with rfl | hg
    · have := h.lo.1; omega
    · have := owns_ge hr k hg; omega
  · rcases hg with rfl | hg
    · exact h.dis.1 hk
    · exact h.dis.2.2.2 k hg hk
  · obtain ⟨q1, q2, q3, q4, q5, q6⟩ := h.sep k hk
    exact ⟨Nat.lt_of_lt_of_le q1 hf.size, q2, q3, q4, q5, fun e => q6 (hnew k q1 e)⟩
  · have := h.met.lt k hF
    exact h.dis.2.2.2 k (hnew k this.2 hk) hF
/-- What the pushes leave. -/
theorem SrchV.keepPush {v : Value} {W4 W5 : World} (h : SrchV I vm o b0 X Sb mb F P Q L vw vp w0 x w) (hv : v = vw ∨ v = vp) (hgr : w.grownBy W4 v.ownBlock) (hf : Fr (fun q => q = X) W4 W5) : Keep (fun k => P k ∨ Q k) w W5 := fun k hk hs => by
  have h1 := h.sep k hk
  have hs4 : k < W4.heap.size := Nat.lt_of_lt_of_le hs hgr.size
  rw [hf.block k hs4 h1.2.2.1]
  refine hgr.block k hs fun e => ?_
  rcases hv with rfl | rfl
  · exact h1.2.2.2.2.1 e.symm
  · exact h1.2.2.2.2.2 e.symm
/-- The way's or the path's slice alone is set anew. -/
theorem SrchV.reslice {vw' vp' : Value} {x' : Sr} {fw fp : List Value} (h : SrchV I vm o b0 X Sb mb F P Q L vw vp w0 x w) (hf : Fr (fun q => q = X) w w') (hb : Holds w' X 64 (srC I vm o Sb mb vw' vp' x'.limit 0 0 (.slice none 0 0) 0 x'.moves x'.deep)) (e1 : x'.sts = x.sts)
    (hw : w.ownsRow b0 73 3 vw' x'.way.length fw) (hw2 : LsF FrmF P w x'.way.reverse fw) (hp : w.ownsRow b0 75 9 vp' x'.path.length fp) (hp2 : LsF MvF P w x'.path fp) (hvw : ∀ k, vw'.ownBlock = some k → vw.ownBlock = some k) (hvp : ∀ k, vp'.ownBlock = some k → vp.ownBlock = some k) : SrchV I vm o b0 X Sb mb F P Q L vw' vp' w0 x' w' := by
  have hK : Keep P w w' := fun k hk hs => hf.block k hs fun hg => (h.sep k (.inl hk)).2.2.1 hg
  refine ⟨h.below.trans (hf.to_below h.size fun k hk hg => ?_), hb, ?_, h.on.of_eq (hf.block _ h.on.lt h.onX), ⟨fw, hf.owns hw fun g hg hgg => owns_ne_holds hw h.box (by decide) (by have hgg : g = X := hgg; rw [← hgg]; exact hg), LsF.up (fun _ _ => oneFrm.up hK) _ hw2⟩, ⟨fp, hf.owns hp fun g hg hgg => owns_ne_holds hp h.box (by decide) (by have hgg : g = X := hgg; rw [← hgg]; exact hg), LsF.up (fun _ _ => oneMv.up hK) _ hp2⟩, fun k hk => ?_, ⟨h.dis.1, h.dis.2.1, fun k hk => h.dis.2.2.1 k (hvw k hk), fun k hk => h.dis.2.2.2 k (hvp k hk)⟩, h.lo, h.lop⟩
  · have hg : k = X := hg
    have := h.lo.1
    omega
  · rw [e1]; exact h.met.fr hf fun k hk hg => h.dis.1 (by have hg : k = X := hg; rw [← hg]; exact hk)
  · obtain ⟨q1, q2, q3, q4, q5, q6⟩ := h.sep k hk
    exact ⟨Nat.lt_of_lt_of_le q1 hf.size, q2, q3, q4, fun e => q5 (hvw k e), fun e => q6 (hvp k e)⟩
/-- A frame's count turns. -/
theorem SrchV.bump {g cap : Nat} {f : Frm} {r : List Frm} (h : SrchV I vm o b0 X Sb mb F P Q L (.slice (some ⟨g, 0, none⟩) (r.length + 1) cap) vp w0 x w) (hx : x.way = f :: r) (hW : w' = w.setCell ⟨g, r.length * 3 + 2, none⟩ (.int .i64 ((f.k + 1 : Nat) : Int))) : SrchV I vm o b0 X Sb mb F P Q L (.slice (some ⟨g, 0, none⟩) (r.length + 1) cap) vp w0 { x with way := { f with k := f.k + 1 } :: r } w' := by
  obtain ⟨fw, w1, w2⟩ := h.way
  obtain ⟨fp, p1, p2⟩ := h.path
  have hf : Fr (fun q => q = g) w w' := by rw [hW]; exact Fr.setCell (F := fun q => q = g) (p := ⟨g, r.length * 3 + 2, none⟩) (Fr.refl _ w) (fun _ => rfl) _
  have hK : Keep P w w' := fun k hk hs => hf.block k hs fun hg => (h.sep k (.inl hk)).2.2.2.2.1 (by have hg : k = g := hg; rw [hg]; rfl)
  have hgb : (Value.slice (some ⟨g, 0, none⟩) (r.length + 1) cap).ownBlock = some g := rfl
  rw [hx, List.reverse_cons] at w2
  obtain ⟨f1, c, e1, e2, vl, e3, e4⟩ := LsF.snoc_inv w2
  have hl1 : f1.length = r.length * 3 := by
    have := LsF.len (fun a c h => oneFrm.len h) e2
    simpa using this
  have hlx : x.way.length = r.length + 1 := by rw [hx]; rfl
  rw [hlx] at w1
  have hst := (w1.stored (r.length * 3 + 2) (.int .i64 ((f.k + 1 : Nat) : Int))).1
  rw [← hW] at hst
  have hset : fw.set (r.length * 3 + 2) (.int .i64 ((f.k + 1 : Nat) : Int)) = f1 ++ [.int .i64 (f.n : Int), vl, .int .i64 ((f.k + 1 : Nat) : Int)] := by
    rw [e1, e3, ← hl1, List.set_append_right _ _ (by omega), Nat.add_sub_cancel_left]
    rfl
  rw [hset] at hst
  refine ⟨h.below.trans (hf.to_below h.size fun k hk hg => ?_), hf.holds h.box ?_, h.met.fr hf fun k hk hg => ?_, h.on.of_eq (hf.block _ h.on.lt fun hg => row_not_map w1 h.on (by have hg : mb = g := hg; rw [hg]; rfl)), ⟨_, hst, ?_⟩, ⟨fp, hf.owns p1 fun k hk hg => rows_ne p1 w1 (by decide) k hk (by have hg : k = g := hg; rw [hg]; rfl), LsF.up (fun _ _ => oneMv.up hK) _ p2⟩, fun k hk => ⟨Nat.lt_of_lt_of_le (h.sep k hk).1 hf.size, (h.sep k hk).2⟩, h.dis, h.lo, h.lop⟩
  · have hg : k = g := hg
    have := owns_ge w1 g hgb
    omega
  · intro e
    have e : X = g := e
    exact owns_ne_holds w1 h.box (by decide) (by rw [e]; rfl)
  · have hg : k = g := hg
    exact h.dis.2.2.1 g hgb (by rw [← hg]; exact hk)
  · show LsF FrmF P w' (({ f with k := f.k + 1 } : Frm) :: r).reverse _
    rw [List.reverse_cons]
    exact LsF.append (LsF.up (fun _ _ => oneFrm.up hK) _ e2) (LsF.sing ⟨vl, rfl, e4.up hK⟩)
/-- More blocks hold what has been told. -/
theorem SrchV.wider {P' Q' : Nat → Prop} (h : SrchV I vm o b0 X Sb mb F P Q L vw vp w0 x w) (hP : ∀ k, P k → P' k) (hQ : ∀ k, Q' k → ¬ P' k) (hs : ∀ k, P' k ∨ Q' k → k < w.heap.size ∧ ¬ F k ∧ k ≠ X ∧ k ≠ mb ∧ vw.ownBlock ≠ some k ∧ vp.ownBlock ≠ some k) : SrchV I vm o b0 X Sb mb F P' Q' L vw vp w0 x w := by
  obtain ⟨fw, w1, w2⟩ := h.way
  obtain ⟨fp, p1, p2⟩ := h.path
  exact ⟨h.below, h.box, h.met, h.on, ⟨fw, w1, LsF.mono (fun _ _ => FrmF.mono fun k hk _ => hP k hk) _ w2⟩, ⟨fp, p1, LsF.mono (fun _ _ => MvF.mono fun k hk _ => hP k hk) _ p2⟩, hs, h.dis, h.lo, hQ⟩
end
end Go.Proofs.Ytpednhcfkjjcpaa.G
