/- The walks of a graph's methods (printed by mknode.py). -/
import Derived.Test.YtpednhcfkjjcpaaOf
import Derived.Test.YtpednhcfkjjcpaaNums
namespace Go.Proofs.Ytpednhcfkjjcpaa
open Go.RowKit
set_option linter.unusedVariables false
set_option linter.unusedSimpArgs false

theorem sz_Sight : (Try.prog.info? 92).map (·.size) = some 4 := by kernel_rfl
theorem outBox2 {P : Program} {fn : Func} {s u : Nat} {tmps : Array Value} {W : World} {b : Nat} {t ty : TypeId} {cs : List Value} (hf : fn.results = #[.cell s ty, .tmp u]) (h : Holds W b t cs) (hs : tmps[s]?.getD undef = .pointer (some ⟨b, 0, none⟩))
    (d : TypeDesc) (hu : P.underlying ty = some d) (hd : d.isRow = true) (hi : (P.info? ty).map (·.size) = some cs.length) : (results fn tmps).run P W = .ok (.tuple #[.agg cs.toArray, tmps.getD u undef]) W := by
  have hl := run_loadVar_mid (P := P) W b 0 ty cs d (fun j v hj => by rw [Nat.zero_add, h.cell]; exact hj) hu hd hi
  simp [results, hf, hs, asAddr, hl]
def nodeOf (n : PNet) (s : Bs) : Option PNode := match nums 20000 1 s with
  | some ([k], []) => n[k]?
  | _ => none
def zeroN : PNode := ⟨[], 0, false, false, false⟩
theorem zeroF (P : Nat → Prop) (w : World) : NodeF P w zeroN [.slice none 0 0, .int .u64 0, .bool false, .bool false, .bool false] := ⟨_, rfl, [], RowL.nil _ _ _, rfl⟩
def NodePost (P : Nat → Prop) (n : PNet) (s : Bs) (w : World) (e : Ending) (w' : World) : Prop := Below w.heap.size w w' ∧ ∃ c, e = .returned (.tuple #[.agg c.toArray, .bool (nodeOf n s).isSome]) ∧ NodeF P w' ((nodeOf n s).getD zeroN) c
theorem NodePost.no {P : Nat → Prop} {n : PNet} {s : Bs} {w w' : World} (h : nodeOf n s = none) (hb : Below w.heap.size w w') : NodePost P n s w (.returned (.tuple #[.agg #[.slice none 0 0, .int .u64 0, .bool false, .bool false, .bool false], .bool false])) w' := by
  refine ⟨hb, [.slice none 0 0, .int .u64 0, .bool false, .bool false, .bool false], by rw [h]; rfl, ?_⟩
  rw [h]
  exact zeroF P w'
set_option maxHeartbeats 1000000 in
theorem beginFn (w : World) (v : Value) : Calls Try.prog 74 #[.agg #[v]] w (BytesPost [0] w) := by
  have hb : Below w.heap.size w ((w.alloc (.cells #[v] 83)).alloc (.cells #[.int .i64 0] 3)) := ((Below.refl _ _).alloc (Nat.le_refl _) _).alloc (by simp) _
  have hr : RowL (fun _ => True) ((w.alloc (.cells #[v] 83)).alloc (.cells #[.int .i64 0] 3)) 1 (.slice (some ⟨w.heap.size + 1, 0, none⟩) 1 1) [0].length ([0].map natV) := by
    have h := Holds.new (w.alloc (.cells #[v] 83)) 3 #[.int .i64 0]
    have e : (w.alloc (.cells #[v] 83)).heap.size = w.heap.size + 1 := by simp
    rw [e] at h
    exact RowL.of_holds (n := 1) h trivial (by omega) rfl
  have HC := Lib.hid (bytesFn hr (by simp) (by simp))
  have HB := Lib.hid hb
  clear hb hr
  go_enter Try.func74, Try.ntmps74
  go_wp2_with (fail)
  refine HC.out.mono ?_
  rintro e w2 ⟨rfl, hb⟩
  have HF : Hid (BytesPost [0] w (.returned (.string ⟨(encs [0]).toArray⟩)) w2) := ⟨rfl, HB.out.trans (hb.mono HB.out.size)⟩
  clear HC hb
  go_wp2
  go_ret
  exact HF.out
theorem Fr.setR0 {w w2 : World} {X q : Nat} {xs : List Value} {i : Nat} (h : Below w.heap.size w w2) (hX : w.heap.size ≤ X) : Below w.heap.size w (setR (w2.drewN q) X i xs) := by
  have h1 : Fr (fun _ => False) w (w2.drewN q) := (Fr.of_below h _).drewN q
  have : ∀ (xs : List Value) (i : Nat) (W : World), Fr (fun _ => False) w W → Fr (fun _ => False) w (setR W X i xs) := fun xs => by
    induction xs with
    | nil => intro i W hW; exact hW
    | cons x r ih => intro i W hW; exact ih (i + 1) _ (hW.setCell (fun hk => absurd hk (by show ¬ X < _; omega)) x)
  exact (this xs i _ h1).to_below (Nat.le_refl _) fun _ _ h => h
theorem Fr.setRX (X : Nat) : ∀ (xs : List Value) (i : Nat) (W : World), Fr (fun q => q = X) W (setR W X i xs) := fun xs => by
  have : ∀ (xs : List Value) (i : Nat) (W0 W : World), Fr (fun q => q = X) W0 W → Fr (fun q => q = X) W0 (setR W X i xs) := fun xs => by
    induction xs with
    | nil => intro i W0 W hW; exact hW
    | cons x r ih => intro i W0 W hW; exact ih (i + 1) W0 _ (hW.setCell (fun _ => rfl) x)
  exact fun i W => this xs i W W (Fr.refl _ _)
set_option maxHeartbeats 4000000 in
set_option maxRecDepth 100000 in
theorem nodeFn {P : Nat → Prop} {w : World} {n : PNet} {v : Value} {s : ByteArray} (h : NetV P w v n) (hs : s.size ≤ 1048576) : Calls Try.prog 78 #[.agg #[v], .string s] w (NodePost P n s.data.toList w) := by
  obtain ⟨f, hr, hg⟩ := h
  obtain ⟨a, c, rfl, hc1, _, _⟩ := hr.form
  obtain ⟨M, hM⟩ : ∃ M, n.length = M := ⟨_, rfl⟩
  have HR := Lib.hid hr
  have HG := Lib.hid hg
  have HN := Lib.hid hM
  have HS := Lib.hid hs
  rw [hM] at hc1
  rw [hM]
  clear hr hg hM hs
  go_enter Try.func78, Try.ntmps78
  go_upto_region 1 with (fail)
  obtain ⟨w1, hw1⟩ : ∃ W, W = (w.alloc (.cells #[.slice a M c] 83)).alloc (.cells #[.slice none 0 0, .int .u64 0, .bool false, .bool false, .bool false] 81) := ⟨_, rfl⟩
  have hX1 : Holds w1 (w.heap.size + 1) 81 [.slice none 0 0, .int .u64 0, .bool false, .bool false, .bool false] := by
    have h := Holds.new (w.alloc (.cells #[.slice a M c] 83)) 81 #[.slice none 0 0, .int .u64 0, .bool false, .bool false, .bool false]
    have e : (w.alloc (.cells #[.slice a M c] 83)).heap.size = w.heap.size + 1 := by simp
    rw [e] at h
    rw [hw1]; exact h
  have hB1 : Holds w1 w.heap.size 83 [.slice a M c] := by rw [hw1]; exact (Holds.new w 83 #[.slice a M c]).alloc _
  have hb1 : Below w.heap.size w w1 := by rw [hw1]; exact ((Below.refl _ _).alloc (Nat.le_refl _) _).alloc (by simp) _
  obtain ⟨X, hX⟩ : ∃ X, w.heap.size + 1 = X := ⟨_, rfl⟩
  have HXW : Hid (w.heap.size + 1 = X) := hX
  rw [← hw1]
  rw [hX] at hX1 ⊢
  have HX1 := Lib.hid hX1
  have HG1 := Lib.hid hB1
  have HB1 := Lib.hid hb1
  have HC : Hid (Calls Try.prog 83 #[.string s, .int .i64 1] w1 (NumsPost (nums 20000 1 s.data.toList) w1)) := numbersFn (m := 1) HS.out (by omega)
  clear hw1 hX1 hB1 hb1 hX
  go_wp2_with (fail)
  refine HC.out.mono ?_
  rintro e w2 ⟨hb2, hp⟩
  have HX2 := Lib.hid (HX1.out.belowAll hb2)
  have HG2 := Lib.hid (HG1.out.belowAll hb2)
  have HB2 := Lib.hid (HB1.out.trans (hb2.mono HB1.out.size))
  have HX1L : Hid (X < w1.heap.size) := HX1.out.lt
  clear HC hb2 HX1 HG1
  obtain ⟨r, hr⟩ : ∃ r, nums 20000 1 s.data.toList = r := ⟨_, rfl⟩
  rw [hr] at hp
  have HRR := Lib.hid hr
  cases r with
  | none =>
    have hp2 : e = .returned (.tuple #[.slice none 0 0, .bool false]) := hp
    subst hp2
    clear hr hp
    have HN0 : Hid (nodeOf n s.data.toList = none) := by show nodeOf n _ = none; unfold nodeOf; rw [HRR.out]
    go_wp2
    go_quiet (fail)
    have HXd : Hid (Holds (w2.drewN nq) X 81 [.slice none 0 0, .int .u64 0, .bool false, .bool false, .bool false]) := HX2.out.of_eq rfl
    go_wp2_with (refine wpList_storeB rfl 81 _ _ rfl X 0 [.slice none 0 0, .int .u64 0, .bool false, .bool false, .bool false] rfl rfl HXd.out (by decide) sz_Node rfl ?_)
    refine Named.mk (fun w3 hW => ?_)
    have hst := HXd.out.stored hW (by decide)
    have hb3 : Below w.heap.size w w3 := by rw [hW]; exact (Fr.setR0 HB2.out (by have := HXW.out; omega))
    have HF : Hid (NodePost P n s.data.toList w (.returned (.tuple #[.agg #[.slice none 0 0, .int .u64 0, .bool false, .bool false, .bool false], .bool false])) w3) := NodePost.no HN0.out hb3
    go_wp2
    refine bodyPost_ret (outBox2 Try.results78 hst rfl _ Try.underlying81 rfl sz_Node) rfl ?_
    exact HF.out
  | some p =>
    obtain ⟨ns, l⟩ := p
    obtain ⟨v, rfl, hown⟩ := hp
    have hl1 := nums_len _ _ hr
    obtain ⟨k, rfl⟩ : ∃ k, ns = [k] := List.length_eq_one_iff.1 hl1
    obtain ⟨g, cap, cs, rfl, hcap, hge, hbox, hcl, hct⟩ := owns_box hown (by simp)
    have hc0 : cs[0]? = some (.int .i64 (k : Int)) := by
      have : (cs.take 1)[0]? = cs[0]? := by rw [List.getElem?_take_of_lt (by omega)]
      rw [← this, show cs.take 1 = [natV k] from hct]
      rfl
    have HCB := Lib.hid hbox
    have HC0 := Lib.hid hc0
    have HGX : Hid (X < g) := Nat.lt_of_lt_of_le HX1L.out hge
    clear hr hl1 hown hbox hc0 hcl hct hge
    simp only [List.length_cons, List.length_nil, Nat.zero_add] at hcap ⊢
    cases l with
    | cons b l =>
      simp only [List.isEmpty_cons]
      have HN0 : Hid (nodeOf n s.data.toList = none) := by show nodeOf n _ = none; unfold nodeOf; rw [HRR.out]
      go_wp2
      go_quiet (fail)
      have HXd : Hid (Holds (w2.drewN nq) X 81 [.slice none 0 0, .int .u64 0, .bool false, .bool false, .bool false]) := HX2.out.of_eq rfl
      go_wp2_with (refine wpList_storeB rfl 81 _ _ rfl X 0 [.slice none 0 0, .int .u64 0, .bool false, .bool false, .bool false] rfl rfl HXd.out (by decide) sz_Node rfl ?_)
      refine Named.mk (fun w3 hW => ?_)
      have hst := HXd.out.stored hW (by decide)
      have hb3 : Below w.heap.size w w3 := by rw [hW]; exact (Fr.setR0 HB2.out (by have := HXW.out; omega))
      have HF : Hid (NodePost P n s.data.toList w (.returned (.tuple #[.agg #[.slice none 0 0, .int .u64 0, .bool false, .bool false, .bool false], .bool false])) w3) := NodePost.no HN0.out hb3
      go_wp2
      refine bodyPost_ret (outBox2 Try.results78 hst rfl _ Try.underlying81 rfl sz_Node) rfl ?_
      exact HF.out
    | nil =>
      simp only [List.isEmpty_nil]
      have e0 := HCB.out.cell 0
      rw [HC0.out] at e0
      have e1 := HG2.out.cell 0
      simp only [List.getElem?_cons_zero] at e1
      by_cases hk : M ≤ k
      · have d1 : decide ((M : Int) ≤ (k : Int)) = true := decide_eq_true (by omega)
        have HN0 : Hid (nodeOf n s.data.toList = none) := by show nodeOf n _ = none; unfold nodeOf; rw [HRR.out]; exact List.getElem?_eq_none (by rw [HN.out]; exact hk)
        go_wp2
        go_quiet (fail)
        have HXd : Hid (Holds (w2.drewN nq) X 81 [.slice none 0 0, .int .u64 0, .bool false, .bool false, .bool false]) := HX2.out.of_eq rfl
        go_wp2_with (refine wpList_storeB rfl 81 _ _ rfl X 0 [.slice none 0 0, .int .u64 0, .bool false, .bool false, .bool false] rfl rfl HXd.out (by decide) sz_Node rfl ?_)
        refine Named.mk (fun w3 hW => ?_)
        have hst := HXd.out.stored hW (by decide)
        have hb3 : Below w.heap.size w w3 := by rw [hW]; exact (Fr.setR0 HB2.out (by have := HXW.out; omega))
        have HF : Hid (NodePost P n s.data.toList w (.returned (.tuple #[.agg #[.slice none 0 0, .int .u64 0, .bool false, .bool false, .bool false], .bool false])) w3) := NodePost.no HN0.out hb3
        go_wp2
        refine bodyPost_ret (outBox2 Try.results78 hst rfl _ Try.underlying81 rfl sz_Node) rfl ?_
        exact HF.out
      · have d1 : decide ((M : Int) ≤ (k : Int)) = false := decide_eq_false (by omega)
        have hkl : k < n.length := by rw [HN.out]; omega
        obtain ⟨gb, ob, cb, cN, he1, hG1, hr1⟩ := HR.out.atN oneNode HG.out hkl
        injection he1 with he1 _ he1'
        subst he1 he1'
        have hgb : gb < w.heap.size := by
          have hl := oneNode.len hG1
          have : cN[0]? = some cN[0] := List.getElem?_eq_getElem (by omega)
          exact World.block_lt_of_cell? w _ (hr1 0 _ this)
        go_wp2
        go_quiet (fail)
        clear e0 e1 d1
        obtain ⟨wr, hwr⟩ : ∃ W, W = w2.drewN nq := ⟨_, rfl⟩
        have hX3 : Holds wr X 81 [.slice none 0 0, .int .u64 0, .bool false, .bool false, .bool false] := by rw [hwr]; exact HX2.out.of_eq rfl
        have hG3 : Holds wr w.heap.size 83 [.slice (some ⟨gb, ob, none⟩) M c] := by rw [hwr]; exact HG2.out.of_eq rfl
        have hC3 : Holds wr g 3 cs := by rw [hwr]; exact HCB.out.of_eq rfl
        have hB3 : Fr (fun _ => False) w wr := by rw [hwr]; exact (Fr.of_below HB2.out _).drewN nq
        have HB3 : Hid (Below w.heap.size w wr) := hB3.to_below (Nat.le_refl _) fun _ _ h => h
        have HX3 := Lib.hid hX3
        have HG3 := Lib.hid hG3
        have HC3 := Lib.hid hC3
        have HGB := Lib.hid hgb
        have HL1 := Lib.hid (oneNode.len hG1)
        have HO1 := Lib.hid (oneNode.one hG1)
        have HR1 := Lib.hid hr1
        have HGN := Lib.hid hG1
        rw [← hwr]
        clear hwr hX3 hG3 hC3 hB3 hgb hr1 hG1 HX2 HG2 HB2 HCB
        have hi2k : (k : Int) < (M : Int) := by omega
        have hi0k : (0 : Int) ≤ (k : Int) := by omega
        have hwik : IntKind.i64.wrap (k : Int) = (k : Int) := by rw [IntKind.wrap_i64]; omega
        have hwjk : IntKind.i64.wrap ((k : Int) + 1) = (k : Int) + 1 := by rw [IntKind.wrap_i64]; omega
        have hik : (k : Int) < (M : Int) := by omega
        go_wp2
        refine wp_region_rho (fun (r : Unit) j => ([(.pointer (some ⟨w.heap.size, 0, none⟩)), (.pointer (some ⟨w.heap.size, 0, none⟩)), (.slice (some ⟨gb, ob, none⟩) M c), (.slice (some ⟨g, 0, none⟩) 1 cap), (.pointer (some ⟨g, 0, none⟩)), (.int .i64 (k : Int)), (.pointer (some ⟨gb, ob + k * 5, none⟩)), (.agg cN.toArray), (undef), (.bool true)] : List Value).getD j undef) (fun r L w2 => Fr (fun q => q = X) wr w2 ∧ Holds w2 X 81 (if L.getD 8 false then cN else [.slice none 0 0, .int .u64 0, .bool false, .bool false, .bool false])) [(0, 26), (1, 27), (2, 28), (3, 29), (4, 30), (5, 31), (6, 32), (7, 33), (9, 5)] 34 rfl (by kernel_rfl) (by kernel_rfl) (by kernel_rfl) () ⟨(Fr.refl _ _).drew, by simpa using (show Holds wr.drew X 81 [.slice none 0 0, .int .u64 0, .bool false, .bool false, .bool false] from HX3.out.of_eq rfl)⟩ (fun i hi => ?_) (fun r w9 hW9 => ?_)
        · have hi2 : i < 10 := hi
          clear hi
          have hi3 : i = 0 ∨ i = 1 ∨ i = 2 ∨ i = 3 ∨ i = 4 ∨ i = 5 ∨ i = 6 ∨ i = 7 ∨ i = 8 ∨ i = 9 := by omega
          clear hi2
          rcases hi3 with rfl | rfl | rfl | rfl | rfl | rfl | rfl | rfl | rfl | rfl
          · exact RhoOp.pure rfl (fun r L b w2 hl hR hW => by
              have h2 : b.eval (.tmp 2) = .pointer (some ⟨w.heap.size, 0, none⟩) := (hR.old (by decide) (by kernel_rfl)).trans rfl
              simp only [Act.eval, Array.getD_eq_getD_getElem?] at h2
              show (execOp b.eval _).run _ _ = .ok (.value (.pointer (some ⟨w.heap.size, 0, none⟩))) _
              unfold execOp
              simp [go_sem, h2]) (fun r L w2 hs h => by
              simp only [gd_ne (L := L) (i := 0) (j := 8) (by decide)]
              exact h)
          · exact RhoOp.pure rfl (fun r L b w2 hl hR hW => by
              have h26 : b.eval (.tmp 26) = .pointer (some ⟨w.heap.size, 0, none⟩) := hR.of (j := 0) (by decide) (by kernel_rfl)
              simp only [Act.eval, Array.getD_eq_getD_getElem?] at h26
              show (execOp b.eval _).run _ _ = .ok (.value (.pointer (some ⟨w.heap.size, 0, none⟩))) _
              unfold execOp
              simp [go_sem, h26]) (fun r L w2 hs h => by
              simp only [gd_ne (L := L) (i := 1) (j := 8) (by decide)]
              exact h)
          · exact RhoOp.pure rfl (fun r L b w2 hl hR hW => by
              have e : w2.cell? ⟨w.heap.size, 0, none⟩ = some (.slice (some ⟨gb, ob, none⟩) M c) := ((hW.1.holds HG3.out (by have := HXW.out; omega)).cell 0).trans rfl
              have h27 : b.eval (.tmp 27) = .pointer (some ⟨w.heap.size, 0, none⟩) := hR.of (j := 1) (by decide) (by kernel_rfl)
              simp only [Act.eval, Array.getD_eq_getD_getElem?] at h27
              show (execOp b.eval _).run _ _ = .ok (.value (.slice (some ⟨gb, ob, none⟩) M c)) _
              unfold execOp
              simp [go_sem, h27, e]) (fun r L w2 hs h => by
              simp only [gd_ne (L := L) (i := 2) (j := 8) (by decide)]
              exact h)
          · exact RhoOp.pure rfl (fun r L b w2 hl hR hW => by
              have h6 : b.eval (.tmp 6) = .slice (some ⟨g, 0, none⟩) 1 cap := (hR.old (by decide) (by kernel_rfl)).trans rfl
              simp only [Act.eval, Array.getD_eq_getD_getElem?] at h6
              show (execOp b.eval _).run _ _ = .ok (.value (.slice (some ⟨g, 0, none⟩) 1 cap)) _
              unfold execOp
              simp [go_sem, h6]) (fun r L w2 hs h => by
              simp only [gd_ne (L := L) (i := 3) (j := 8) (by decide)]
              exact h)
          · exact RhoOp.pure rfl (fun r L b w2 hl hR hW => by
              have h29 : b.eval (.tmp 29) = .slice (some ⟨g, 0, none⟩) 1 cap := hR.of (j := 3) (by decide) (by kernel_rfl)
              simp only [Act.eval, Array.getD_eq_getD_getElem?] at h29
              show (execOp b.eval _).run _ _ = .ok (.value (.pointer (some ⟨g, 0, none⟩))) _
              unfold execOp
              simp [go_sem, h29]) (fun r L w2 hs h => by
              simp only [gd_ne (L := L) (i := 4) (j := 8) (by decide)]
              exact h)
          · exact RhoOp.pure rfl (fun r L b w2 hl hR hW => by
              have e : w2.cell? ⟨g, 0, none⟩ = some (.int .i64 (k : Int)) := ((hW.1.holds HC3.out (by have := HGX.out; omega)).cell 0).trans HC0.out
              have h30 : b.eval (.tmp 30) = .pointer (some ⟨g, 0, none⟩) := hR.of (j := 4) (by decide) (by kernel_rfl)
              simp only [Act.eval, Array.getD_eq_getD_getElem?] at h30
              show (execOp b.eval _).run _ _ = .ok (.value (.int .i64 (k : Int))) _
              unfold execOp
              simp [go_sem, h30, e]) (fun r L w2 hs h => by
              simp only [gd_ne (L := L) (i := 5) (j := 8) (by decide)]
              exact h)
          · exact RhoOp.pure rfl (fun r L b w2 hl hR hW => by
              have h28 : b.eval (.tmp 28) = .slice (some ⟨gb, ob, none⟩) M c := hR.of (j := 2) (by decide) (by kernel_rfl)
              have h31 : b.eval (.tmp 31) = .int .i64 (k : Int) := hR.of (j := 5) (by decide) (by kernel_rfl)
              simp only [Act.eval, Array.getD_eq_getD_getElem?] at h28 h31
              show (execOp b.eval _).run _ _ = .ok (.value (.pointer (some ⟨gb, ob + k * 5, none⟩))) _
              unfold execOp
              simp [go_sem, h28, h31, hi0k, hik, hwik]) (fun r L w2 hs h => by
              simp only [gd_ne (L := L) (i := 6) (j := 8) (by decide)]
              exact h)
          · exact RhoOp.pure rfl (fun r L b w2 hl hR hW => by
              have hrg : w2.rangeAt gb (ob + k * 5) cN := fun j u hj => by
                have h1 := HR1.out j u hj
                have hb : Below w.heap.size w w2 := HB3.out.trans (hW.1.to_below HB3.out.size fun q hq e => by have := HXW.out; omega)
                rw [hb.cell HGB.out]; exact h1
              have hld : (Instr.loadAt 81 (.pointer (some ⟨gb, ob + k * 5, none⟩))).run Try.prog w2 = .ok (.agg cN.toArray) w2 := run_loadAt_mid w2 gb (ob + k * 5) 81 cN _ hrg Try.underlying81 rfl (by rw [HL1.out]; exact sz_Node)
              have h32 : b.eval (.tmp 32) = .pointer (some ⟨gb, ob + k * 5, none⟩) := hR.of (j := 6) (by decide) (by kernel_rfl)
              simp only [Act.eval, Array.getD_eq_getD_getElem?] at h32
              show (execOp b.eval _).run _ _ = .ok (.value (.agg cN.toArray)) _
              unfold execOp
              simp [Act.eval, h32, Sem.run_bind, hld]) (fun r L w2 hs h => by
              simp only [gd_ne (L := L) (i := 7) (j := 8) (by decide)]
              exact h)
          · exact RhoOp.store rfl rfl (fun r L b w2 hs hl hR hW => by
              have hbx := hW.2
              rw [hl] at hbx
              have hst := storeN (P := Try.prog) (ty := 81) (xs := cN) (i := 0) hbx (by rw [HL1.out]; exact Nat.le_refl _) (by rw [HL1.out]; exact sz_Node) HO1.out
              have h33 : b.eval (.tmp 33) = .agg cN.toArray := hR.of (j := 7) (by decide) (by kernel_rfl)
              have h4 : b.eval (.tmp 4) = .pointer (some ⟨X, 0, none⟩) := (hR.old (by decide) (by kernel_rfl)).trans rfl
              simp only [Act.eval, Array.getD_eq_getD_getElem?] at h33 h4
              refine ⟨(), setR w2 X 0 cN, fun _ _ => rfl, ?_, ?_⟩
              · show (execOp b.eval _).run _ _ = .ok .skip _
                unfold execOp
                simp [Act.eval, h33, h4, Sem.run_bind, hst]
              · refine ⟨hW.1.trans (Fr.setRX X cN 0 w2) fun _ _ h => h, ?_⟩
                rw [gd_eq (by rw [hs]; decide)]
                have := hbx.stored (W' := setR w2 X 0 cN) rfl (by rw [HL1.out]; exact Nat.le_refl _)
                rw [List.take_zero, List.nil_append, List.drop_of_length_le (by rw [HL1.out]; exact Nat.le_refl _), List.append_nil] at this
                exact this)
          · exact RhoOp.pure rfl (fun r L b w2 hl hR hW => by
              show (execOp b.eval _).run _ _ = .ok (.value (.bool true)) _
              unfold execOp
              simp [go_sem, ]) (fun r L w2 hs h => by
              simp only [gd_ne (L := L) (i := 9) (j := 8) (by decide)]
              exact h)
        · refine puts_as (ps := [(0, 26, .pointer (some ⟨w.heap.size, 0, none⟩)), (1, 27, .pointer (some ⟨w.heap.size, 0, none⟩)), (2, 28, .slice (some ⟨gb, ob, none⟩) M c), (3, 29, .slice (some ⟨g, 0, none⟩) 1 cap), (4, 30, .pointer (some ⟨g, 0, none⟩)), (5, 31, .int .i64 (k : Int)), (6, 32, .pointer (some ⟨gb, ob + k * 5, none⟩)), (7, 33, .agg cN.toArray), (9, 5, .bool true)]) rfl ?_
          simp only [puts, Act.put, List.setIfInBounds_toArray, List.set_cons_zero, List.set_cons_succ]
          obtain ⟨hf9, hb9⟩ := hW9
          have hb9 : Holds w9 X 81 cN := hb9
          have hb : Below w.heap.size w w9 := HB3.out.trans (hf9.to_below HB3.out.size fun q hq e => by have := HXW.out; omega)
          have HF : Hid (NodePost P n s.data.toList w (.returned (.tuple #[.agg cN.toArray, .bool true])) w9) := by
            have hno : nodeOf n s.data.toList = some n[k] := by unfold nodeOf; rw [HRR.out]; exact List.getElem?_eq_getElem hkl
            refine ⟨hb, cN, by rw [hno]; rfl, ?_⟩
            rw [hno]
            exact oneNode.up (Keep.below hb) HGN.out
          clear hf9 hb
          go_wp2
          refine bodyPost_ret (outBox2 Try.results78 hb9 rfl _ Try.underlying81 rfl (by rw [HL1.out]; exact sz_Node)) rfl ?_
          exact HF.out
def sight (x : PNode) : Value := .agg #[.int .u64 (x.props : Int), .bool x.fin, .bool x.prog, .bool x.acc]
def LookPost (n : PNet) (s : Bs) (w : World) (e : Ending) (w' : World) : Prop := Below w.heap.size w w' ∧ e = .returned (sight ((nodeOf n s).getD zeroN))
set_option maxHeartbeats 4000000 in
set_option maxRecDepth 100000 in
theorem lookFn {P : Nat → Prop} {w : World} {n : PNet} {v : Value} {s : ByteArray} (h : NetV P w v n) (hs : s.size ≤ 1048576) : Calls Try.prog 75 #[.agg #[v], .string s] w (LookPost n s.data.toList w) := by
  have HN := Lib.hid h
  have HS := Lib.hid hs
  clear h hs
  go_enter Try.func75, Try.ntmps75
  go_upto_region 1 with (fail)
  obtain ⟨w1, hw1⟩ : ∃ W, W = (w.alloc (.cells #[v] 83)).alloc (.cells #[.int .u64 0, .bool false, .bool false, .bool false] 92) := ⟨_, rfl⟩
  have hX1 : Holds w1 (w.heap.size + 1) 92 [.int .u64 0, .bool false, .bool false, .bool false] := by
    have h := Holds.new (w.alloc (.cells #[v] 83)) 92 #[.int .u64 0, .bool false, .bool false, .bool false]
    have e : (w.alloc (.cells #[v] 83)).heap.size = w.heap.size + 1 := by simp
    rw [e] at h
    rw [hw1]; exact h
  have hB1 : Holds w1 w.heap.size 83 [v] := by rw [hw1]; exact (Holds.new w 83 #[v]).alloc _
  have hb1 : Below w.heap.size w w1 := by rw [hw1]; exact ((Below.refl _ _).alloc (Nat.le_refl _) _).alloc (by simp) _
  obtain ⟨X, hX⟩ : ∃ X, w.heap.size + 1 = X := ⟨_, rfl⟩
  have HXW : Hid (w.heap.size + 1 = X) := hX
  rw [← hw1]
  rw [hX] at hX1 ⊢
  have HX1 := Lib.hid hX1
  have HB1 := Lib.hid hb1
  have HC := Lib.hid (nodeFn (HN.out.up (Keep.below hb1)) HS.out)
  have e0 := hB1.cell 0
  simp only [List.getElem?_cons_zero] at e0
  clear hw1 hX1 hB1 hb1 hX
  go_wp2_with (fail)
  refine HC.out.mono ?_
  rintro e w2 ⟨hb2, c, rfl, hnf⟩
  obtain ⟨x, hx⟩ : ∃ x, (nodeOf n s.data.toList).getD zeroN = x := ⟨_, rfl⟩
  rw [hx] at hnf
  have HXX := Lib.hid hx
  have HX2 := Lib.hid (HX1.out.belowAll hb2)
  have HB2 := Lib.hid (HB1.out.trans (hb2.mono HB1.out.size))
  have hl := oneNode.len hnf
  have HO1 := Lib.hid (oneNode.one hnf)
  have hs1 : (Try.prog.info? 81).map (·.size) = some c.length := by rw [hl]; exact sz_Node
  have HZ : Hid (Holds (w2.alloc (.cells #[.slice none 0 0, .int .u64 0, .bool false, .bool false, .bool false] 81)) w2.heap.size 81 [.slice none 0 0, .int .u64 0, .bool false, .bool false, .bool false]) := Holds.new w2 81 #[.slice none 0 0, .int .u64 0, .bool false, .bool false, .bool false]
  have HNF := Lib.hid hnf
  clear HC HX1 HB1 hb2 hnf e0 hx
  go_wp2_with (refine wpList_storeB rfl 81 _ _ rfl w2.heap.size 0 c rfl rfl HZ.out (by rw [hl]; exact Nat.le_of_ble_eq_true rfl) hs1 HO1.out ?_)
  refine Named.mk (fun w3 hW => ?_)
  have hB3 : Below w2.heap.size w2 w3 := by rw [hW]; exact Below.far (Below.refl _ _) (Nat.le_refl _) _ _ _
  have hD3 := HZ.out.stored hW (by rw [hl]; exact Nat.le_of_ble_eq_true rfl)
  rw [List.take_zero, List.nil_append, List.drop_of_length_le (by rw [hl]; exact Nat.le_of_ble_eq_true rfl), List.append_nil] at hD3
  have HX3 := Lib.hid (HX2.out.belowAll hB3)
  have HB3 := Lib.hid (HB2.out.trans (hB3.mono HB2.out.size))
  obtain ⟨va, rfl, _⟩ := HNF.out
  have e1 := hD3.cell 1
  have e2 := hD3.cell 2
  have e3 := hD3.cell 3
  have e4 := hD3.cell 4
  simp only [List.getElem?_cons_zero, List.getElem?_cons_succ] at e1 e2 e3 e4
  clear hW hB3 hD3 HZ hs1 HO1 HX2 HB2 hl
  go_wp2_with (refine wpList_storeB rfl 92 _ _ rfl X 0 [.int .u64 (x.props : Int), .bool x.fin, .bool x.prog, .bool x.acc] rfl rfl HX3.out (Nat.le_of_ble_eq_true rfl) sz_Sight rfl ?_)
  refine Named.mk (fun w4 hW => ?_)
  have hst := HX3.out.stored hW (Nat.le_of_ble_eq_true rfl)
  have hb4 : Below w.heap.size w w4 := by rw [hW]; exact HB3.out.trans ((Fr.setRX X _ 0 w3).to_below HB3.out.size fun q hq e => by have := HXW.out; omega)
  have HF : Hid (LookPost n s.data.toList w (.returned (sight x)) w4) := ⟨hb4, by rw [HXX.out]⟩
  clear e1 e2 e3 e4 hb4 hW
  go_wp2
  refine bodyPost_ret (outBox Try.results75 hst rfl _ Try.underlying92 rfl sz_Sight) rfl ?_
  exact HF.out
/-- The iterator that Next hands out. -/
def IterV (w : World) (lo : Nat) (f v : Value) (s : ByteArray) : Prop := ∃ b0 b1, f = .func (.func 79) #[] #[.pointer (some ⟨b0, 0, none⟩), .pointer (some ⟨b1, 0, none⟩)] ∧ Holds w b0 83 [v] ∧ Holds w b1 9 [.string s] ∧ lo ≤ b0 ∧ lo ≤ b1
theorem nextFn (w : World) (v : Value) (s : ByteArray) : Calls Try.prog 76 #[.agg #[v], .string s] w (fun e w' => Below w.heap.size w w' ∧ ∃ f, e = .returned f ∧ IterV w' w.heap.size f v s) := by
  have h := Holds.new (w.alloc (.cells #[v] 83)) 9 #[.string s]
  have e : (w.alloc (.cells #[v] 83)).heap.size = w.heap.size + 1 := by simp
  rw [e] at h
  have H := Lib.hid h
  clear h e
  go_enter Try.func76, Try.ntmps76
  go_wp2
  go_ret
  exact ⟨((Below.refl _ _).alloc (Nat.le_refl _) _).alloc (by simp) _, _, rfl, w.heap.size, w.heap.size + 1, rfl, (Holds.new w 83 #[v]).alloc _, H.out, Nat.le_refl _, by omega⟩
end Go.Proofs.Ytpednhcfkjjcpaa
