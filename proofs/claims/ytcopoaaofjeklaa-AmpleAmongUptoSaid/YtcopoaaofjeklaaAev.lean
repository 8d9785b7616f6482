/- The walk of threads.Ever (printed by mkaev.py out of aev.txt). -/
import Derived.Test.YtcopoaaofjeklaaAhe
namespace Go.Proofs.Ytcopoaaofjeklaa.G
open Go.RowKit Go.Maps
set_option linter.unusedVariables false
set_option linter.unusedSimpArgs false

theorem tever_zero {t : PThr} {s : ByteArray} {p : Int} (h : tstate t s = none ∨ p < 0 ∨ (t.procs.length : Int) ≤ p) : tever t s p = zeroF := by
  unfold tever
  split
  · rename_i vs ns e
    rcases h with h | h | h
    · rw [h] at e; cases e
    · rw [if_pos h]
    · split
      · rfl
      · rw [List.getElem?_eq_none (by omega)]
  · rfl
theorem tever_some {t : PThr} {s : ByteArray} {vs ns : List Nat} {p : Nat} (h : tstate t s = some (vs, ns)) (hp : p < t.procs.length) (hn : p < ns.length) : tever t s (p : Int) = everGo t t.procs[p] 61 0 [(ns[p] : Int)] zeroF := by
  unfold tever
  rw [h]
  simp only
  rw [if_neg (by omega), Int.toNat_natCast, List.getElem?_eq_getElem hp, List.getElem?_eq_getElem hn]
theorem nodup_len : ∀ (n : Nat) (l : List Int), l.Nodup → (∀ k ∈ l, 0 ≤ k ∧ k < n) → l.length ≤ n
  | 0, l, _, h => by
    cases l with
    | nil => exact Nat.le_refl _
    | cons a l => have := h a (List.mem_cons_self ..); omega
  | n + 1, l, hd, h => by
    have h1 := nodup_len n (l.erase (n : Int)) (hd.erase _) fun k hk => by
      have h2 := h k (List.mem_of_mem_erase hk)
      have h3 : k ≠ (n : Int) := fun e => by
        rw [e] at hk
        exact (List.Nodup.not_mem_erase hd) hk
      omega
    by_cases hm : (n : Int) ∈ l
    · rw [List.length_erase_of_mem hm] at h1
      omega
    · rw [List.erase_of_not_mem hm] at h1
      omega
def GoodRow (m : Nat) (row : List Int) : Prop := row.Nodup ∧ ∀ k ∈ row, 0 ≤ k ∧ k < m
theorem GoodRow.len {m : Nat} {row : List Int} (h : GoodRow m row) : row.length ≤ m := nodup_len m row h.1 h.2
theorem GoodRow.app {m : Nat} {row : List Int} {k : Int} (h : GoodRow m row) (hk : 0 ≤ k ∧ k < m) (hn : k ∉ row) : GoodRow m (row ++ [k]) := by
  refine ⟨?_, fun x hx => ?_⟩
  · rw [List.nodup_append]
    refine ⟨h.1, by simp, fun a ha b hb => ?_⟩
    rw [List.mem_singleton] at hb
    subst hb
    exact fun e => hn (e ▸ ha)
  · rcases List.mem_append.1 hx with hx | hx
    · exact h.2 x hx
    · rw [List.mem_singleton] at hx
      rw [hx]; exact hk
theorem reach_at {l : List TArc} {k : Nat} (h : k < l.length) (r : List Int) : reach (l.drop k) r = reach (l.drop (k + 1)) (if l[k].bad = 0 ∧ l[k].dst ∉ r then r ++ [l[k].dst] else r) := by
  rw [List.drop_eq_getElem_cons h, reach]
theorem everGo_at {t : PThr} {p : List TNode} {x : TNode} {i k : Nat} {row : List Int} {f : PFoot} (hi : i < row.length) (hk : row[i] = (k : Int)) (hx : p[k]? = some x) (fuel : Nat) : everGo t p (fuel + 1) i row f = everGo t p fuel (i + 1) (reach x.arcs row) (togP f (hereF t p k)) := by
  rw [everGo, List.getElem?_eq_getElem hi, hk]
  simp only [Int.toNat_natCast]
  rw [hx]
theorem everGo_end {t : PThr} {p : List TNode} {i : Nat} {row : List Int} {f : PFoot} (hi : row.length ≤ i) (fuel : Nat) : everGo t p (fuel + 1) i row f = f := by
  rw [everGo, List.getElem?_eq_none hi]
/-- What Ever's loops keep. -/
structure EvS (w4 : World) (b10 : Nat) (f : PFoot) (row : List Int) (vr : Value) (W : World) : Prop where
  fr : Fr (fun q => q = b10) w4 W
  row : W.ownsRow w4.heap.size 3 1 vr row.length (row.map intV)
  box : ∃ ur uw, Holds W b10 25 [ur, uw, .int .u64 (f.turns : Int)] ∧ RowL (But w4.heap.size vr) W 1 ur f.reads.length (f.reads.map intV) ∧ RowL (But w4.heap.size vr) W 1 uw f.writes.length (f.writes.map intV)
  lt : b10 < w4.heap.size
theorem EvS.fresh {w4 W W' : World} {b10 : Nat} {f : PFoot} {row : List Int} {vr : Value} (h : EvS w4 b10 f row vr W) (hb : Below W.heap.size W W') : EvS w4 b10 f row vr W' := by
  obtain ⟨ur, uw, h1, h2, h3⟩ := h.box
  exact ⟨h.fr.trans (Fr.of_below hb (fun q => q = b10)) fun _ _ h => h, owns_below h.row hb, ⟨ur, uw, h1.belowAll hb, h2.up (Keep.below hb), h3.up (Keep.below hb)⟩, h.lt⟩
theorem EvS.tog {w4 W W' : World} {b10 : Nat} {f g : PFoot} {row : List Int} {vr : Value} {r : Value × Value} (h : EvS w4 b10 f row vr W) (hf : Fr (fun q => q = b10) W W') (hx : Holds W' b10 25 [r.1, r.2, .int .u64 (g.turns : Int)]) (ht : TwoR W.heap.size g r W') : EvS w4 b10 g row vr W' := by
  have hw : Wide (From W.heap.size) (But w4.heap.size vr) W' := fun k hk _ => ⟨Nat.le_trans h.fr.size hk, fun e => by have := owns_lt h.row k e; have h1 : W.heap.size ≤ k := hk; omega⟩
  exact ⟨h.fr.trans hf fun _ _ h => h, hf.owns h.row fun k e hk => by have h1 := owns_ge h.row k e; have h2 := h.lt; have hk : k = b10 := hk; omega, ⟨r.1, r.2, hx, ht.1.mono hw, ht.2.mono hw⟩, h.lt⟩
theorem EvS.app {w4 W W5 : World} {b10 : Nat} {f : PFoot} {row : List Int} {vr vr' : Value} {n : Int} {o : Obj} (h : EvS w4 b10 f row vr W) (hown : W5.ownsRow w4.heap.size 3 1 vr' (row.length + 1) (row.map intV ++ [intV n])) (hgr : (W.alloc o).grownBy W5 vr.ownBlock) (hblk : vr'.ownBlock = vr.ownBlock ∨ vr'.ownBlock = some (W.alloc o).heap.size) : EvS w4 b10 f (row ++ [n]) vr' W5 := by
  have hlt := h.lt
  have hge := owns_ge h.row
  have hvl := owns_lt h.row
  have hf : Fr (fun q => vr.ownBlock = some q) W W5 := ((Fr.refl _ W).alloc o).grown hgr fun q hq _ => hq
  have hs : (W.alloc o).heap.size = W.heap.size + 1 := by simp
  obtain ⟨ur, uw, h1, h2, h3⟩ := h.box
  have hup : ∀ {v : Value} {n : Nat} {l : List Value}, RowL (But w4.heap.size vr) W 1 v n l → RowL (But w4.heap.size vr') W5 1 v n l := fun h => by
    have h5 := (h.mono (Q := fun k => But w4.heap.size vr k ∧ k < W.heap.size) fun k hk hs' => ⟨hk, hs'⟩).up (w' := W5) fun k hk hs' => hf.block k hs' hk.1.2
    refine h5.mono fun k hk _ => ⟨hk.1.1, fun e => ?_⟩
    rcases hblk with hb | hb
    · rw [hb] at e; exact hk.1.2 e
    · rw [hb] at e; injection e with e; omega
  exact ⟨h.fr.trans hf fun k hk e => by have := hge k e; omega, by rw [List.length_append, List.map_append, List.length_singleton]; exact hown, ⟨ur, uw, hf.holds h1 fun e => by have := hge _ e; omega, hup h2, hup h3⟩, hlt⟩
set_option maxHeartbeats 4000000 in
set_option maxRecDepth 100000 in
theorem everFn {P : Nat → Prop} {w : World} {t : PThr} {vi vp vq : Value} {s : ByteArray} {p : Int} (h : ThrV P w vi vp vq t) (ht : OkT t) (hs : s.size ≤ 1048576) : Calls Try.prog 49 #[.agg #[vi, vp, vq], .string s, .int .i64 p] w (FootP (tever t s p) w) := by
  obtain ⟨i0, z0, hi0, hz0, hz1, hz2, hz3⟩ := info_of info_int
  have h := h.mono (Q := fun q => q < w.heap.size) fun q _ hq => hq
  obtain ⟨w1, hw1⟩ : ∃ W, W = (w.alloc (.cells #[vi, vp, vq] 66)).alloc (.cells #[.slice none 0 0, .slice none 0 0, .int .u64 0] 25) := ⟨_, rfl⟩
  have hb1 : Below w.heap.size w w1 := by rw [hw1]; exact ((Below.refl _ _).alloc (Nat.le_refl _) _).alloc (by simp) _
  have h3 : Holds w1 w.heap.size 66 [vi, vp, vq] := by rw [hw1]; exact (Holds.new w 66 #[vi, vp, vq]).alloc _
  have h6 : Holds w1 (w.heap.size + 1) 25 [.slice none 0 0, .slice none 0 0, .int .u64 0] := by
    have h := Holds.new (w.alloc (.cells #[vi, vp, vq] 66)) 25 #[.slice none 0 0, .slice none 0 0, .int .u64 0]
    simp only [World.size_alloc] at h
    rw [hw1]; exact h
  have hv1 := h.up (Keep.below hb1)
  have HST := Lib.hid (stateFn hv1 ht hs)
  have HV1 := Lib.hid hv1
  have H3 := Lib.hid h3
  have H6 := Lib.hid h6
  have HL6 := Lib.hid h6.lt
  have HB1 := Lib.hid hb1
  have HT := Lib.hid ht
  have HRG := Lib.hid (h3.range (i := 0) (n := 3) (xs := [vi, vp, vq]) rfl)
  have c1 : vi.oneCell' = true := h.init.cell1
  have c2 : vp.oneCell' = true := by obtain ⟨_, k, _⟩ := h.procs; exact k.cell1
  have c3 : vq.oneCell' = true := by obtain ⟨_, k, _⟩ := h.props; exact k.cell1
  clear h ht hs hb1 h3 h6 hv1
  go_enter Try.func49, Try.ntmps49
  go_upto_region 1 with (fail)
  rw [← hw1]
  clear hw1
  obtain ⟨b3, hb3⟩ : ∃ b, w.heap.size = b := ⟨_, rfl⟩
  have HBB : Hid (w.heap.size = b3) := hb3
  rw [hb3] at H3 H6 HRG HL6 ⊢
  clear hb3
  go_wp2_with (refine wpList_load_mid rfl 66 _ rfl b3 0 rfl [vi, vp, vq] _ HRG.out Try.underlying66 rfl sz_Thr ?_)
  refine HST.out.mono ?_
  rintro e w2 ⟨hb2, hp⟩
  have HB2 := Lib.hid hb2
  have HB02 := Lib.hid (HB1.out.trans (hb2.mono HB1.out.size))
  have H62 := Lib.hid (H6.out.belowAll hb2)
  have H32 := Lib.hid (H3.out.belowAll hb2)
  have HV2 := Lib.hid (HV1.out.up (Keep.below hb2))
  clear HST HRG hb2 H6 H3 HV1
  cases hts : tstate t s with
  | none =>
    rw [hts] at hp
    obtain ⟨v1, v2, rfl⟩ := hp
    have HTH := Lib.hid (tever_zero (p := p) (.inl hts))
    go_wp2_with (refine wpList_storeB rfl 25 _ _ rfl (b3 + 1) 0 [.slice none 0 0, .slice none 0 0, .int .u64 0] rfl rfl H62.out (Nat.le_of_ble_eq_true rfl) foot_len rfl ?_)
    refine Named.mk (fun W3 hW3 => ?_)
    have hf3 : Fr (fun q => q = b3 + 1) w2 W3 := by rw [hW3]; exact Fr.setRX _ _ 0 _
    have H63 : Hid (Holds W3 (b3 + 1) 25 [.slice none 0 0, .slice none 0 0, .int .u64 0]) := H62.out.stored hW3 (Nat.le_of_ble_eq_true rfl)
    have HBZ : Hid (Below w.heap.size w W3) := HB02.out.trans (hf3.to_below HB02.out.size fun q hq e => by have := HBB.out; have e : q = b3 + 1 := e; omega)
    clear hW3 hf3
    go_wp2
    refine bodyPost_ret (outBox Try.results49 H63.out rfl _ Try.underlying25 rfl foot_len) rfl ?_
    exact ⟨HBZ.out, _, rfl, by rw [HTH.out]; exact ⟨_, _, rfl, RowL.nil _ _ _, RowL.nil _ _ _⟩⟩
  | some r =>
    obtain ⟨vs, ns⟩ := r
    rw [hts] at hp
    obtain ⟨v1, v2, rfl, hr1, hr2⟩ := hp
    obtain ⟨k1, k2, k3, k4, k5⟩ := tstate_of hts
    have hr1 := hr1.row
    have hr2 := hr2.row
    obtain ⟨a1, z1, rfl, _, _, _⟩ := hr1.form
    obtain ⟨a2, z2, rfl, _, _, _⟩ := hr2.form
    have HR2 := Lib.hid hr2
    obtain ⟨np, hnp⟩ : ∃ n, ns.length = n := ⟨_, rfl⟩
    obtain ⟨ni, hni⟩ : ∃ n, vs.length = n := ⟨_, rfl⟩
    rw [hnp, hni]
    have HNP := Lib.hid hnp
    have HNT : Hid (t.procs.length = np) := by show _ = _; rw [← k2]; exact hnp
    have HTS := Lib.hid hts
    have HK4 := Lib.hid k4
    clear hr1 hr2 k1 k2 k3 k4 k5 hni hnp hts
    by_cases hp0 : p < 0
    · have d1 : decide (p < 0) = true := decide_eq_true hp0
      have HTH := Lib.hid (tever_zero (t := t) (s := s) (p := p) (.inr (.inl hp0)))
      clear hp0
      go_wp2_with (refine wpList_storeB rfl 25 _ _ rfl (b3 + 1) 0 [.slice none 0 0, .slice none 0 0, .int .u64 0] rfl rfl H62.out (Nat.le_of_ble_eq_true rfl) foot_len rfl ?_)
      refine Named.mk (fun W3 hW3 => ?_)
      have hf3 : Fr (fun q => q = b3 + 1) w2 W3 := by rw [hW3]; exact Fr.setRX _ _ 0 _
      have H63 : Hid (Holds W3 (b3 + 1) 25 [.slice none 0 0, .slice none 0 0, .int .u64 0]) := H62.out.stored hW3 (Nat.le_of_ble_eq_true rfl)
      have HBZ : Hid (Below w.heap.size w W3) := HB02.out.trans (hf3.to_below HB02.out.size fun q hq e => by have := HBB.out; have e : q = b3 + 1 := e; omega)
      clear hW3 hf3
      go_wp2
      refine bodyPost_ret (outBox Try.results49 H63.out rfl _ Try.underlying25 rfl foot_len) rfl ?_
      exact ⟨HBZ.out, _, rfl, by rw [HTH.out]; exact ⟨_, _, rfl, RowL.nil _ _ _, RowL.nil _ _ _⟩⟩
    · by_cases hpn : (np : Int) ≤ p
      · have d1 : decide (p < 0) = false := decide_eq_false hp0
        have d2 : decide ((np : Int) ≤ p) = true := decide_eq_true hpn
        have HTH := Lib.hid (tever_zero (t := t) (s := s) (p := p) (.inr (.inr (by rw [HNT.out]; exact hpn))))
        clear hp0 hpn
        go_wp2_with (refine wpList_storeB rfl 25 _ _ rfl (b3 + 1) 0 [.slice none 0 0, .slice none 0 0, .int .u64 0] rfl rfl H62.out (Nat.le_of_ble_eq_true rfl) foot_len rfl ?_)
        refine Named.mk (fun W3 hW3 => ?_)
        have hf3 : Fr (fun q => q = b3 + 1) w2 W3 := by rw [hW3]; exact Fr.setRX _ _ 0 _
        have H63 : Hid (Holds W3 (b3 + 1) 25 [.slice none 0 0, .slice none 0 0, .int .u64 0]) := H62.out.stored hW3 (Nat.le_of_ble_eq_true rfl)
        have HBZ : Hid (Below w.heap.size w W3) := HB02.out.trans (hf3.to_below HB02.out.size fun q hq e => by have := HBB.out; have e : q = b3 + 1 := e; omega)
        clear hW3 hf3
        go_wp2
        refine bodyPost_ret (outBox Try.results49 H63.out rfl _ Try.underlying25 rfl foot_len) rfl ?_
        exact ⟨HBZ.out, _, rfl, by rw [HTH.out]; exact ⟨_, _, rfl, RowL.nil _ _ _, RowL.nil _ _ _⟩⟩
      · have d1 : decide (p < 0) = false := decide_eq_false hp0
        have d2 : decide ((np : Int) ≤ p) = false := decide_eq_false hpn
        obtain ⟨q, rfl⟩ : ∃ q : Nat, p = (q : Int) := ⟨p.toNat, by omega⟩
        have hqt : q < t.procs.length := by rw [HNT.out]; omega
        have hqn : q < ns.length := by rw [HNP.out]; omega
        have hi2q : (q : Int) < (np : Int) := by omega
        have d2n : decide (np ≤ q) = false := decide_eq_false (by omega)
        have hi0q : (0 : Int) ≤ (q : Int) := by omega
        have hkl := inAll_at HK4.out hqn hqt
        obtain ⟨g2, o2, c2', xv, he, hxv, hcv⟩ := HR2.out.at1 hqn
        injection he with he _ _
        subst he
        rw [List.getElem?_map, List.getElem?_eq_getElem hqn] at hxv
        injection hxv with hxv
        have HTH := Lib.hid (tever_some HTS.out hqt hqn)
        obtain ⟨k, hk⟩ : ∃ k, ns[q] = k := ⟨_, rfl⟩
        have HK := Lib.hid hk
        rw [hk] at hxv hkl HTH
        replace hcv : w2.cell? ⟨g2, o2 + q, none⟩ = some (.int .i64 (k : Int)) := by rw [hcv, ← hxv]; rfl
        obtain ⟨lp, hlp⟩ : ∃ l, t.procs[q] = l := ⟨_, rfl⟩
        have HLP := Lib.hid hlp
        have HLM : Hid (lp ∈ t.procs) := by show _ ∈ _; rw [← hlp]; exact List.getElem_mem hqt
        have hz60 : lp.length ≤ 60 := (HT.out.procs lp HLM.out).2.1
        rw [hlp] at hkl HTH
        obtain ⟨w4, hw4⟩ : ∃ W, W = w2.alloc (.cells #[.slice none 0 0, .slice none 0 0, .int .u64 0] 25) := ⟨_, rfl⟩
        have hb4 : Below w2.heap.size w2 w4 := by rw [hw4]; exact (Below.refl _ _).alloc (Nat.le_refl _) _
        have h10 : Holds w4 w2.heap.size 25 [.slice none 0 0, .slice none 0 0, .int .u64 0] := by rw [hw4]; exact Holds.new w2 25 #[.slice none 0 0, .slice none 0 0, .int .u64 0]
        obtain ⟨b10, hb10⟩ : ∃ b, w2.heap.size = b := ⟨_, rfl⟩
        have HB10 : Hid (w2.heap.size = b10) := hb10
        have h4s : w4.heap.size = b10 + 1 := by rw [hw4, ← hb10]; simp
        have H4S := Lib.hid h4s
        have hv4 := HV2.out.up (Keep.below hb4)
        have H34 := Lib.hid (H32.out.belowAll hb4)
        have H64 := Lib.hid (H62.out.belowAll hb4)
        have HB4 : Hid (Below w.heap.size w w4) := HB02.out.trans (hb4.mono HB02.out.size)
        have HL3 : Hid (b3 < b10) := by have := H32.out.lt; show b3 < b10; omega
        have HL6 : Hid (b3 + 1 < b10) := by have := H62.out.lt; show b3 + 1 < b10; omega
        have HLW : Hid (w.heap.size ≤ b10) := by have := HB02.out.size; show _ ≤ _; omega
        rw [hb10] at h10
        -- the rows of the process
        obtain ⟨fp, p1, p2⟩ := hv4.procs
        obtain ⟨gp, op, cp, c, rfl, hG, hr⟩ := p1.atN oneTProc p2 hqt
        rw [hlp] at hG
        obtain ⟨v9, f9, rfl, r9, g9⟩ := hG
        have hcl := hr 0 v9 rfl
        rw [Nat.add_zero, Nat.mul_one] at hcl
        obtain ⟨an, cn, rfl, _, _, _⟩ := r9.form
        obtain ⟨gn, on, rfl⟩ : ∃ gn on, an = some ⟨gn, on, none⟩ := by
          obtain ⟨g', o', c', x', he', _⟩ := r9.atN oneTNode g9 (i := k) hkl
          injection he' with he' _ _
          exact ⟨g', o', he'⟩
        have HV4 := Lib.hid hv4
        have HR9 := Lib.hid r9
        have HG9 := Lib.hid g9
        have HCL := Lib.hid hcl
        have HPP : Hid (gp < w.heap.size) := RowL.inP (P := fun q => q < w.heap.size) p1 (by omega)
        obtain ⟨z, hz⟩ : ∃ n, lp.length = n := ⟨_, rfl⟩
        have HZ := Lib.hid hz
        obtain ⟨w5, hw5⟩ : ∃ W, W = w4.alloc (.cells #[.int .i64 (k : Int)] 3) := ⟨_, rfl⟩
        have HE0 : Hid (EvS w4 b10 zeroF [(k : Int)] (.slice (some ⟨w4.heap.size, 0, none⟩) 1 1) w5) := by
          have hb5 : Below w4.heap.size w4 w5 := by rw [hw5]; exact (Below.refl _ _).alloc (Nat.le_refl _) _
          refine ⟨Fr.of_below hb5 _, ⟨rfl, .inr ⟨w4.heap.size, 1, #[.int .i64 (k : Int)], rfl, Nat.le_refl _, ?_, Nat.le_refl _, by unfold maxLen; omega, rfl, rfl⟩⟩, ⟨_, _, h10.belowAll hb5, RowL.nil _ _ _, RowL.nil _ _ _⟩, by omega⟩
          rw [hw5]
          exact Holds.new w4 3 #[.int .i64 (k : Int)]
        have HGR : Hid (GoodRow lp.length [(k : Int)]) := ⟨by simp, fun x hx => by rw [List.mem_singleton] at hx; omega⟩
        rw [HNT.out] at H34 ⊢
        rw [hz] at HCL
        rw [h4s] at HE0
        have hcv4 : ∀ o, (w2.alloc o).cell? ⟨g2, o2 + q, none⟩ = some (.int .i64 (k : Int)) := fun o => cell_fr ((Fr.refl (fun _ => False) w2).alloc o) hcv fun h => h
        clear hb4 h10 h4s hv4 p1 p2 hr r9 g9 hz hlp hk hxv hb10 HR2 HV2 H32 H62
        go_wp2
        rw [← hw4, ← hw5]
        clear hcv hcv4 hw4 hw5
        rw [HB10.out]
        go_loopw [11, 12] (fun vr x W => ∃ (i : Nat) (row : List Int) (f : PFoot), x = .int .i64 (i : Int) ∧ i ≤ row.length ∧ Hid (EvS w4 b10 f row vr W) ∧ Hid (everGo t lp (61 - i) i row f = tever t s (q : Int)) ∧ Hid (BigF f (1000 * i)) ∧ Hid (GoodRow lp.length row)) (fun _ x _ => 61 - (intOf x).toNat)
        case atStart => exact ⟨0, [(k : Int)], zeroF, rfl, Nat.zero_le _, HE0.out, HTH.out.symm, zero_big _, HGR.out⟩
        case round =>
          clear HE0 HGR HTH
          obtain ⟨i, row, f, hx, hi, HE, HG, HBG, HGR⟩ := hrel
          subst hx
          obtain ⟨R, hR⟩ : ∃ n, row.length = n := ⟨_, rfl⟩
          have HRR := Lib.hid hR
          have hR60 : R ≤ 60 := by have := HGR.out.len; omega
          rw [hR] at hi
          obtain ⟨ar, cr, hvr, hcr, hcr2, _⟩ := (RowL.of_owns (P := fun _ => True) HE.out.row fun _ _ => trivial).form
          subst hvr
          by_cases hiR : i < R
          · have hi2i : (i : Int) < (R : Int) := by omega
            have hi0i : (0 : Int) ≤ (i : Int) := by omega
            have hwji : IntKind.i64.wrap ((i : Int) + 1) = (i : Int) + 1 := by rw [IntKind.wrap_i64]; omega
            have hil : i < row.length := by omega
            have hown := HE.out.row
            obtain ⟨gr, rfl⟩ : ∃ gr, ar = some ⟨gr, 0, none⟩ := by
              rcases hown.2 with ⟨_, h0⟩ | ⟨g, cap, cur, he, _⟩
              · omega
              · injection he with he _ _
                exact ⟨g, he⟩
            have hgr4 : w4.heap.size ≤ gr := owns_ge hown gr rfl
            have hgrw : gr < wr.heap.size := owns_lt hown gr rfl
            obtain ⟨kn, hkn⟩ : ∃ kn : Nat, row[i] = (kn : Int) := ⟨row[i].toNat, by have := HGR.out.2 row[i] (List.getElem_mem hil); omega⟩
            have hknz : kn < lp.length := by have := HGR.out.2 row[i] (List.getElem_mem hil); omega
            have hrc : wr.cell? ⟨gr, i, none⟩ = some (.int .i64 (kn : Int)) := by
              rw [hown.cellAt i (by omega), List.getElem?_map, List.getElem?_eq_getElem hil, hkn]
              rfl
            obtain ⟨x, hx⟩ : ∃ x, lp[kn] = x := ⟨_, rfl⟩
            have HXM : Hid (x ∈ lp) := by show _ ∈ _; rw [← hx]; exact List.getElem_mem hknz
            obtain ⟨gn', on', cn', c, he', hGn, hrn⟩ := HR9.out.atN oneTNode HG9.out hknz
            injection he' with he' _ _
            injection he' with he'
            injection he' with he1 he2 _
            subst he1 he2
            rw [hx] at hGn
            obtain ⟨va, fa, rfl, ra, ga⟩ := hGn
            obtain ⟨aa, ac, rfl, hac, hac2, _⟩ := ra.form
            have HRA := Lib.hid ra
            have HGA := Lib.hid ga
            have q0 := hrn 0 (.slice aa x.arcs.length ac) rfl
            rw [Nat.add_zero] at q0
            have HQ0 := Lib.hid q0
            have HNN : Hid (gn < w.heap.size) := RowL.inP (P := fun q => q < w.heap.size) HR9.out (by omega)
            clear hrn ra ga q0 hac hac2
            obtain ⟨g, hg⟩ : ∃ g, hereF t lp kn = g := ⟨_, rfl⟩
            have HGB : Hid (BigF g 1000) := by rw [← hg]; exact hereF_big HT.out HLM.out kn
            have HGO : Hid (everGo t lp (61 - (i + 1)) (i + 1) (reach x.arcs row) (togP f g) = tever t s (q : Int)) := by
              show _ = _
              rw [← HG.out, show 61 - i = (61 - (i + 1)) + 1 by omega, everGo_at hil hkn (by rw [List.getElem?_eq_getElem hknz, hx]), hg]
            have hfr4 := HE.out.fr
            have HCH : Hid (∀ W, Fr (fun q => q = b10) wr W → Calls Try.prog 57 #[.agg #[vi, .slice (some ⟨gp, op, none⟩) np cp, vq], .int .i64 (q : Int), .int .i64 (kn : Int)] W (FootP g W)) := fun W hW => by
              have h1 := hereFn (p := q) (k := kn) (HV4.out.up (w' := W) fun x hx hs => (hfr4.trans hW fun _ _ h => h).block x hs fun e => by have h1 : x < w.heap.size := hx; have e : x = b10 := e; have := HLW.out; omega) HT.out hqt (by rw [HLP.out]; exact hknz)
              rw [HNT.out, HLP.out, hg] at h1
              exact h1
            obtain ⟨ur, uw, k1, k2, k3⟩ := HE.out.box
            have HTG : Hid (∀ W v, Fr (fun q => q = b10) wr W → TwoR wr.heap.size g v W → Calls Try.prog 56 #[.agg #[ur, uw, .int .u64 (f.turns : Int)], .agg #[v.1, v.2, .int .u64 (g.turns : Int)]] W (FootP (togP f g) W)) := fun W v hW hv => by
              have hup : Keep (But w4.heap.size (.slice (some ⟨gr, 0, none⟩) row.length cr)) wr W := fun x hx hs => hW.block x hs fun e => by have h1 : w4.heap.size ≤ x := hx.1; have h2 := HE.out.lt; have e : x = b10 := e; omega
              exact togFn ⟨ur, uw, rfl, k2.up hup, k3.up hup⟩ ⟨Nat.le_trans HBG.out.1 (by omega), Nat.le_trans HBG.out.2.1 (by omega), HBG.out.2.2⟩ ⟨v.1, v.2, rfl, hv.1, hv.2⟩ ⟨Nat.le_trans HGB.out.1 (by omega), Nat.le_trans HGB.out.2.1 (by omega), HGB.out.2.2⟩
            have HRC : Hid (∀ W, Fr (fun q => q = b10) wr W → W.cell? ⟨gr, i, none⟩ = some (.int .i64 (kn : Int))) := fun W hW => cell_fr hW hrc fun e => by have := HE.out.lt; have e : gr = b10 := e; omega
            have H3W : Hid (Holds wr b3 66 [vi, .slice (some ⟨gp, op, none⟩) np cp, vq]) := hfr4.holds H34.out (by have := HL3.out; omega)
            have KB := Lib.hid k1
            have HN3 : Hid (b3 ≠ b10) := by have := HL3.out; show b3 ≠ b10; omega
            have HX := Lib.hid hx
            have HKZ := Lib.hid hknz
            clear k1 k2 k3 hown hgr4 hgrw hkn hrc hx hg hfr4 HG hcr hcr2 hiR
            have HRL : Hid (i < row.length) := hil
            clear hil
            rw [hR]
            clear hR
            go_upto_region 9 with (fail)
            refine wp_region_rho (fun (r : (Value × Value) × Value × Value) j => ([(.agg #[ur, uw, .int .u64 (f.turns : Int)]), (.agg #[vi, .slice (some ⟨gp, op, none⟩) np cp, vq]), (.int .i64 (q : Int)), (.slice (some ⟨gr, 0, none⟩) R cr), (.int .i64 (i : Int)), (.pointer (some ⟨gr, i, none⟩)), (.int .i64 (kn : Int)), (.agg #[r.1.1, r.1.2, .int .u64 (g.turns : Int)]), (.agg #[r.2.1, r.2.2, .int .u64 ((togP f g).turns : Int)]), (undef)] : List Value).getD j undef) (fun r L w2 => AccW wr b10 0 7 8 9 f g (togP f g) ur uw r L w2) [(0, 46), (1, 47), (2, 48), (3, 49), (4, 50), (5, 51), (6, 52), (7, 53), (8, 54)] 90 rfl (by kernel_rfl) (by kernel_rfl) (by kernel_rfl) ((undef, undef), undef, undef) (AccW.start KB.out 10 (by decide)) (fun i hi => ?_) (fun r w9 hW9 => ?_)
            · have hi2 : i < 10 := hi
              clear hi
              have hi3 : i = 0 ∨ i = 1 ∨ i = 2 ∨ i = 3 ∨ i = 4 ∨ i = 5 ∨ i = 6 ∨ i = 7 ∨ i = 8 ∨ i = 9 := by omega
              clear hi2
              rcases hi3 with rfl | rfl | rfl | rfl | rfl | rfl | rfl | rfl | rfl | rfl
              · exact RhoOp.make rfl (fun r L b w2 hs hl hR hW => by
                  have hbx := hW.old (.inl hl)
                  have e0 := hbx.cell 0
                  have e1 := hbx.cell 1
                  have e2 := hbx.cell 2
                  simp only [List.getElem?_cons_zero, List.getElem?_cons_succ] at e0 e1 e2
                  have h10 : b.eval (.tmp 10) = .pointer (some ⟨b10, 0, none⟩) := (hR.old (by decide) (by kernel_rfl)).trans rfl
                  simp only [Act.eval, Array.getD_eq_getD_getElem?] at h10
                  refine ⟨r, w2, ?_, ?_, ?_⟩
                  · exact fun _ _ => rfl
                  · show (execOp b.eval _).run _ _ = .ok (.value (.agg #[ur, uw, .int .u64 (f.turns : Int)])) _
                    unfold execOp
                    simp [go_sem, h10, e0, e1, e2]
                  · exact hW.load (by rw [hs]; decide))
              · exact RhoOp.pure rfl (fun r L b w2 hl hR hW => by
                  have hbx := hW.fr.holds H3W.out HN3.out
                  have e0 := hbx.cell 0
                  have e1 := hbx.cell 1
                  have e2 := hbx.cell 2
                  simp only [List.getElem?_cons_zero, List.getElem?_cons_succ] at e0 e1 e2
                  have h3 : b.eval (.tmp 3) = .pointer (some ⟨b3, 0, none⟩) := (hR.old (by decide) (by kernel_rfl)).trans rfl
                  simp only [Act.eval, Array.getD_eq_getD_getElem?] at h3
                  show (execOp b.eval _).run _ _ = .ok (.value (.agg #[vi, .slice (some ⟨gp, op, none⟩) np cp, vq])) _
                  unfold execOp
                  simp [go_sem, h3, e0, e1, e2]) (fun r L w2 hs h => h.pure (by decide) (by decide) (by decide) (by decide))
              · exact RhoOp.pure rfl (fun r L b w2 hl hR hW => by
                  have h2 : b.eval (.tmp 2) = .int .i64 (q : Int) := (hR.old (by decide) (by kernel_rfl)).trans rfl
                  simp only [Act.eval, Array.getD_eq_getD_getElem?] at h2
                  show (execOp b.eval _).run _ _ = .ok (.value (.int .i64 (q : Int))) _
                  unfold execOp
                  simp [go_sem, h2]) (fun r L w2 hs h => h.pure (by decide) (by decide) (by decide) (by decide))
              · exact RhoOp.pure rfl (fun r L b w2 hl hR hW => by
                  have h11 : b.eval (.tmp 11) = .slice (some ⟨gr, 0, none⟩) R cr := (hR.old (by decide) (by kernel_rfl)).trans rfl
                  simp only [Act.eval, Array.getD_eq_getD_getElem?] at h11
                  show (execOp b.eval _).run _ _ = .ok (.value (.slice (some ⟨gr, 0, none⟩) R cr)) _
                  unfold execOp
                  simp [go_sem, h11]) (fun r L w2 hs h => h.pure (by decide) (by decide) (by decide) (by decide))
              · exact RhoOp.pure rfl (fun r L b w2 hl hR hW => by
                  have h12 : b.eval (.tmp 12) = .int .i64 (i : Int) := (hR.old (by decide) (by kernel_rfl)).trans rfl
                  simp only [Act.eval, Array.getD_eq_getD_getElem?] at h12
                  show (execOp b.eval _).run _ _ = .ok (.value (.int .i64 (i : Int))) _
                  unfold execOp
                  simp [go_sem, h12]) (fun r L w2 hs h => h.pure (by decide) (by decide) (by decide) (by decide))
              · exact RhoOp.pure rfl (fun r L b w2 hl hR hW => by
                  have h49 : b.eval (.tmp 49) = .slice (some ⟨gr, 0, none⟩) R cr := hR.of (j := 3) (by decide) (by kernel_rfl)
                  have h50 : b.eval (.tmp 50) = .int .i64 (i : Int) := hR.of (j := 4) (by decide) (by kernel_rfl)
                  simp only [Act.eval, Array.getD_eq_getD_getElem?] at h49 h50
                  show (execOp b.eval _).run _ _ = .ok (.value (.pointer (some ⟨gr, i, none⟩))) _
                  unfold execOp
                  simp [go_sem, h49, h50, hi0i, hi2i, Nat.zero_add]) (fun r L w2 hs h => h.pure (by decide) (by decide) (by decide) (by decide))
              · exact RhoOp.pure rfl (fun r L b w2 hl hR hW => by
                  have e0 := HRC.out w2 hW.fr
                  have h51 : b.eval (.tmp 51) = .pointer (some ⟨gr, i, none⟩) := hR.of (j := 5) (by decide) (by kernel_rfl)
                  simp only [Act.eval, Array.getD_eq_getD_getElem?] at h51
                  show (execOp b.eval _).run _ _ = .ok (.value (.int .i64 (kn : Int))) _
                  unfold execOp
                  simp [go_sem, h51, e0]) (fun r L w2 hs h => h.pure (by decide) (by decide) (by decide) (by decide))
              · exact RhoOp.call (f := 57) rfl (fun r L b w2 hs hl hR hW => by
                  have h47 : b.eval (.tmp 47) = .agg #[vi, .slice (some ⟨gp, op, none⟩) np cp, vq] := hR.of (j := 1) (by decide) (by kernel_rfl)
                  have h48 : b.eval (.tmp 48) = .int .i64 (q : Int) := hR.of (j := 2) (by decide) (by kernel_rfl)
                  have h52 : b.eval (.tmp 52) = .int .i64 (kn : Int) := hR.of (j := 6) (by decide) (by kernel_rfl)
                  simp only [Act.eval, Array.getD_eq_getD_getElem?] at h47 h48 h52
                  refine ⟨#[.agg #[vi, .slice (some ⟨gp, op, none⟩) np cp, vq], .int .i64 (q : Int), .int .i64 (kn : Int)], ?_, ?_⟩
                  · unfold execOp
                    simp [go_sem, h47, h48, h52]
                  · refine (HCH.out w2 hW.fr).mono fun e w4 h => ?_
                    obtain ⟨hb, v, he, vr, vw, rfl, h1, h2⟩ := h
                    exact ⟨((vr, vw), r.2), fun j hj => match j, hj with | 7, hj => (by rw [hl] at hj; cases hj) | 0, _ => rfl | 1, _ => rfl | 2, _ => rfl | 3, _ => rfl | 4, _ => rfl | 5, _ => rfl | 6, _ => rfl | 8, _ => rfl | 9, _ => rfl | j + 10, _ => rfl, he, hW.call (by rw [hs]; decide) hl hb ⟨h1, h2⟩⟩)
              · exact RhoOp.call (f := 56) rfl (fun r L b w2 hs hl hR hW => by
                  have h46 : b.eval (.tmp 46) = .agg #[ur, uw, .int .u64 (f.turns : Int)] := hR.of (j := 0) (by decide) (by kernel_rfl)
                  have h53 : b.eval (.tmp 53) = .agg #[r.1.1, r.1.2, .int .u64 (g.turns : Int)] := hR.of (j := 7) (by decide) (by kernel_rfl)
                  simp only [Act.eval, Array.getD_eq_getD_getElem?] at h46 h53
                  refine ⟨#[.agg #[ur, uw, .int .u64 (f.turns : Int)], .agg #[r.1.1, r.1.2, .int .u64 (g.turns : Int)]], ?_, ?_⟩
                  · unfold execOp
                    simp [go_sem, h46, h53]
                  · have h8 := hR.on (j := 7) (by kernel_rfl)
                    have h0 := hR.on (j := 0) (by kernel_rfl)
                    refine (HTG.out w2 r.1 hW.fr (hW.c h8)).mono fun e w4 h => ?_
                    obtain ⟨hb, v, he, vr, vw, rfl, h1, h2⟩ := h
                    exact ⟨(r.1, vr, vw), fun j hj => match j, hj with | 8, hj => (by rw [hl] at hj; cases hj) | 0, _ => rfl | 1, _ => rfl | 2, _ => rfl | 3, _ => rfl | 4, _ => rfl | 5, _ => rfl | 6, _ => rfl | 7, _ => rfl | 9, _ => rfl | j + 10, _ => rfl, he, hW.tog (by rw [hs]; decide) hl h8 h0 hb ⟨h1, h2⟩⟩)
              · exact RhoOp.store rfl rfl (fun r L b w2 hs hl hR hW => by
                  have h9 := hR.on (j := 8) (by kernel_rfl)
                  have q1 := (hW.t h9).1.cell1
                  have q2 := (hW.t h9).2.cell1
                  have hone : ([r.2.1, r.2.2, .int .u64 ((togP f g).turns : Int)] : List Value).all (·.oneCell') = true := by
                    simp [q1, q2]
                    simp [Value.oneCell']
                  have hst := storeN (P := Try.prog) (ty := 25) (xs := [r.2.1, r.2.2, .int .u64 ((togP f g).turns : Int)]) (i := 0) (hW.old (.inr (.inr (.inr hl)))) (Nat.le_of_ble_eq_true rfl) foot_len hone
                  have h54 : b.eval (.tmp 54) = .agg #[r.2.1, r.2.2, .int .u64 ((togP f g).turns : Int)] := hR.of (j := 8) (by decide) (by kernel_rfl)
                  have h10 : b.eval (.tmp 10) = .pointer (some ⟨b10, 0, none⟩) := (hR.old (by decide) (by kernel_rfl)).trans rfl
                  simp only [Act.eval, Array.getD_eq_getD_getElem?] at h54 h10
                  refine ⟨r, setR w2 b10 0 [r.2.1, r.2.2, .int .u64 ((togP f g).turns : Int)], fun _ _ => rfl, ?_, ?_⟩
                  · show (execOp b.eval _).run _ _ = .ok .skip _
                    unfold execOp
                    simp [Act.eval, h54, h10, Sem.run_bind, hst]
                  · exact hW.store (by rw [hs]; decide) hl h9 rfl)
            · refine puts_as (ps := [(0, 46, .agg #[ur, uw, .int .u64 (f.turns : Int)]), (1, 47, .agg #[vi, .slice (some ⟨gp, op, none⟩) np cp, vq]), (2, 48, .int .i64 (q : Int)), (3, 49, .slice (some ⟨gr, 0, none⟩) R cr), (4, 50, .int .i64 (i : Int)), (5, 51, .pointer (some ⟨gr, i, none⟩)), (6, 52, .int .i64 (kn : Int)), (7, 53, .agg #[r.1.1, r.1.2, .int .u64 (g.turns : Int)]), (8, 54, .agg #[r.2.1, r.2.2, .int .u64 ((togP f g).turns : Int)])]) rfl ?_
              simp only [puts, Act.put, List.setIfInBounds_toArray, List.set_cons_zero, List.set_cons_succ]
              obtain ⟨hf9, hx9, ht9⟩ := hW9.done (by decide) (by decide)
              have he9 := EvS.tog HE.out hf9 hx9 ht9
              have HE9 := Lib.hid he9
              have HB9 : Hid (BigF (togP f g) (1000 * (i + 1))) := HBG.out.tog HGB.out
              have hfr9 := he9.fr
              have h39 := hfr9.holds H34.out (by have := HL3.out; omega)
              have e1 := h39.cell 1
              simp only [List.getElem?_cons_zero, List.getElem?_cons_succ] at e1
              have e2 : w9.cell? ⟨gp, op + q, none⟩ = some (.slice (some ⟨gn, on, none⟩) z cn) := cell_fr hfr9 HCL.out fun e => by have := HPP.out; have := HLW.out; have e : gp = b10 := e; omega
              have e3 := HRC.out w9 hf9
              obtain ⟨K, hK⟩ : ∃ n, x.arcs.length = n := ⟨_, rfl⟩
              have HK := Lib.hid hK
              have hK2 : K ≤ 1000 := by rw [← hK]; exact arcs_le HT.out HLM.out HXM.out
              have e4 : w9.cell? ⟨gn, on + kn * 4, none⟩ = some (.slice aa K ac) := by rw [← hK]; exact cell_fr hfr9 HQ0.out fun e => by have := HNN.out; have := HLW.out; have e : gn = b10 := e; omega
              have hi2k : (kn : Int) < (z : Int) := by have := HZ.out; omega
              have hi0k : (0 : Int) ≤ (kn : Int) := by omega
              clear he9 hfr9 h39 hf9 hx9 ht9 hW9 HCH HTG HRC H3W KB HN3 HE hK
              go_upto_region 10 with (fail)
              go_quiet (fail)
              have HE8 : Hid (EvS w4 b10 (togP f g) row (.slice (some ⟨gr, 0, none⟩) row.length cr) (w9.drewN nq)) := HE9.out.fresh (((Fr.refl (fun _ => False) w9).drewN nq).to_below (Nat.le_refl _) fun _ _ h => h)
              rw [HRR.out] at HE8
              clear e1 e2 e3 e4 HE9
              go_wp2
              go_loopw [11, 69] (fun vr2 y W => ∃ (j : Nat) (row2 : List Int), y = .int .i64 (j : Int) ∧ j ≤ K ∧ Hid (EvS w4 b10 (togP f g) row2 vr2 W) ∧ Hid (reach (x.arcs.drop j) row2 = reach x.arcs row) ∧ Hid (GoodRow lp.length row2) ∧ i + 1 ≤ row2.length) (fun _ y _ => K - (intOf y).toNat)
              case atStart => exact ⟨0, row, rfl, Nat.zero_le _, HE8.out, by show _ = _; rw [List.drop_zero], HGR.out, by have := HRR.out; omega⟩
              case round =>
                clear HE8
                obtain ⟨j, row2, hy, hj, HE2, HRE, HG2, hlen⟩ := hrel
                subst hy
                obtain ⟨R2, hR2⟩ : ∃ n, row2.length = n := ⟨_, rfl⟩
                have hR260 : R2 ≤ 60 := by have := HG2.out.len; omega
                obtain ⟨ar2, cr2, hvr2, _, _, _⟩ := (RowL.of_owns (P := fun _ => True) HE2.out.row fun _ _ => trivial).form
                subst hvr2
                rw [hR2] at hlen
                have HR2 := Lib.hid hR2
                by_cases hjk : j < K
                · have hjl : j < x.arcs.length := by rw [HK.out]; exact hjk
                  have hi2j : (j : Int) < (K : Int) := by omega
                  have hi0j : (0 : Int) ≤ (j : Int) := by omega
                  have hwjj : IntKind.i64.wrap ((j : Int) + 1) = (j : Int) + 1 := by rw [IntKind.wrap_i64]; omega
                  have hkp : Keep (fun q => q < w.heap.size) w4 wr := fun x hx hs => HE2.out.fr.block x hs fun e => by have h1 : x < w.heap.size := hx; have e : x = b10 := e; have := HLW.out; omega
                  obtain ⟨ga, oa, ca, c, he, hG, hr⟩ := (HRA.out.up hkp).atN oneTArc (LsF.up (fun _ _ => oneTArc.up hkp) _ HGA.out) hjl
                  injection he with he _ hec
                  subst he hec
                  have hG : c = _ := hG
                  subst hG
                  obtain ⟨a, hA⟩ : ∃ a, x.arcs[j] = a := ⟨_, rfl⟩
                  rw [hA] at hr
                  have hOK : OkA t.init.length lp.length a := (HT.out.procs lp HLM.out).2.2.2 x HXM.out a (by rw [← hA]; exact List.getElem_mem hjl)
                  have HDS := Lib.hid hOK.dst
                  have hstep := reach_at hjl row2
                  rw [hA, HRE.out] at hstep
                  have HST := Lib.hid hstep
                  clear hstep hOK hA hkp
                  obtain ⟨d, te, ob, va, pu, so, st, bad⟩ := a
                  have HR := Lib.hid hr
                  simp only [tarcC] at HR
                  have HZA := Lib.hid (Holds.new wr 64 #[.int .i64 0, .bool false, .int .i64 0, .int .i64 0, .bool false, .int .i64 0, .int .i64 0, .int .i64 0])
                  clear hr
                  rw [hR2]
                  go_wp2_with (first | (refine wpList_load_mid rfl 64 _ rfl ga (oa + j * 8) rfl [.int .i64 d, .bool te, .int .i64 ob, .int .i64 va, .bool pu, .int .i64 so, .int .i64 st, .int .i64 bad] _ HR.out Try.underlying64 rfl sz_TArc ?_) | (refine wpList_storeB rfl 64 _ _ rfl wr.heap.size 0 [.int .i64 d, .bool te, .int .i64 ob, .int .i64 va, .bool pu, .int .i64 so, .int .i64 st, .int .i64 bad] rfl rfl HZA.out (Nat.le_of_ble_eq_true rfl) sz_TArc rfl ?_))
                  refine Named.mk (fun w6 hW6 => ?_)
                  have hb6 : Below wr.heap.size wr w6 := by rw [hW6]; exact Below.far (Below.refl _ _) (Nat.le_refl _) _ _ _
                  have h14 : Holds w6 wr.heap.size 64 [.int .i64 d, .bool te, .int .i64 ob, .int .i64 va, .bool pu, .int .i64 so, .int .i64 st, .int .i64 bad] := HZA.out.stored hW6 (Nat.le_of_ble_eq_true rfl)
                  obtain ⟨b14, hb14⟩ : ∃ b, wr.heap.size = b := ⟨_, rfl⟩
                  rw [hb14] at h14 ⊢
                  have HE6 := Lib.hid (HE2.out.fresh hb6)
                  have H14 := Lib.hid h14
                  have x0 := h14.cell 0
                  have x7 := h14.cell 7
                  simp only [List.getElem?_cons_zero, List.getElem?_cons_succ] at x0 x7
                  clear hW6 hb6 h14 HZA HR hb14 HE2
                  by_cases hbad : bad = 0
                  · have d0 : (bad == 0) = true := by simpa using hbad
                    have HBAD := Lib.hid hbad
                    have HCO := Lib.hid (containsFn (n := d) (RowL.of_owns (P := From w4.heap.size) HE6.out.row fun _ h => h) (by rw [hR2]; omega))
                    rw [hR2] at HCO
                    clear hbad
                    go_wp2_with (fail)
                    refine HCO.out.mono ?_
                    rintro e w7 ⟨rfl, hb7⟩
                    have HE7 := Lib.hid (HE6.out.fresh hb7)
                    have y0 := (H14.out.belowAll hb7).cell 0
                    simp only [List.getElem?_cons_zero, List.getElem?_cons_succ] at y0
                    clear HCO HE6 hb7 x0 x7 H14
                    cases hany : row2.any fun m => decide (m = d) with
                    | true =>
                      have HRN : Hid (reach (x.arcs.drop (j + 1)) row2 = reach x.arcs row) := by
                        show _ = _
                        rw [HST.out, if_neg]
                        rintro ⟨_, hn⟩
                        rw [List.any_eq_true] at hany
                        obtain ⟨m, hm, he⟩ := hany
                        rw [decide_eq_true_eq] at he
                        exact hn (he ▸ hm)
                      clear hany
                      go_wp2
                      refine ⟨⟨j + 1, row2, by simp, by omega, by rw [HR2.out] at HE7; exact HE7, HRN, HG2, by rw [HR2.out]; exact hlen⟩, ?_⟩
                      simp [intOf]
                      omega
                    | false =>
                      have hnm : d ∉ row2 := fun hm => by
                        rw [List.any_eq_false] at hany
                        have := hany d hm
                        simp at this
                      have HRN : Hid (reach (x.arcs.drop (j + 1)) (row2 ++ [d]) = reach x.arcs row) := by
                        show _ = _
                        rw [HST.out, if_pos ⟨HBAD.out, hnm⟩]
                      have HG3 := Lib.hid (HG2.out.app HDS.out hnm)
                      clear hany hnm
                      have hown7 := HE7.out.row
                      rw [hR2] at hown7
                      have HO7 := Lib.hid hown7
                      have hsz7 := HE7.out.fr.size
                      have HSZ7 := Lib.hid hsz7
                      clear hown7 hsz7
                      go_wp2_with (at_builtin; refine wpList_append_own_at _ rfl (.tmp 83) (.tmp 86) _ rfl w4.heap.size 3 i0 z0 1 8 Try.underlying22 hi0 hz0 hz1 hz2 hz3 (by omega) (.slice ar2 R2 cr2) R2 (row2.map intV) rfl (HO7.out.alloc _) ⟨w7.heap.size, 0, none⟩ 1 1 [.int .i64 d] rfl rfl ?c1 ?c2 ?c3 ?c4 ?c5 ?_)
                      case c1 => exact cell_one_new _ _ _
                      case c2 => simp [Value.oneCell']
                      case c3 => unfold maxLen; omega
                      case c4 => omega
                      case c5 => have := HSZ7.out; simp; omega
                      intro v' w8 hown8 hgr8 _ hblk8
                      have HE8 : Hid (EvS w4 b10 (togP f g) (row2 ++ [d]) v' w8) := by
                        have h7 := HE7.out
                        rw [hR2] at h7
                        exact h7.app (by rw [hR2]; exact hown8) hgr8 (by simpa using hblk8)
                      have hl3 : i + 1 ≤ (row2 ++ [d]).length := by rw [List.length_append, hR2]; omega
                      clear hown8 hgr8 hblk8 HO7 HSZ7 HE7
                      go_wp2
                      refine ⟨⟨j + 1, row2 ++ [d], by simp, by omega, HE8, HRN, HG3, hl3⟩, ?_⟩
                      simp [intOf]
                      omega
                  · have d0 : (bad == 0) = false := by simpa using hbad
                    have HRN : Hid (reach (x.arcs.drop (j + 1)) row2 = reach x.arcs row) := by
                      show _ = _
                      rw [HST.out, if_neg]
                      exact fun h => hbad h.1
                    clear hbad
                    go_wp2
                    refine ⟨⟨j + 1, row2, by simp, by omega, by rw [HR2.out] at HE6; exact HE6, HRN, HG2, by rw [HR2.out]; exact hlen⟩, ?_⟩
                    simp [intOf]
                    omega
                · obtain rfl : j = K := by omega
                  have hre := HRE.out
                  rw [List.drop_of_length_le (by rw [HK.out]; exact Nat.le_refl _)] at hre
                  replace hre : row2 = reach x.arcs row := hre
                  have HGN : Hid (everGo t lp (61 - (i + 1)) (i + 1) row2 (togP f g) = tever t s (q : Int)) := by
                    show _ = _
                    rw [hre]
                    exact HGO.out
                  clear hre
                  rw [hR2]
                  go_wp2
                  refine ⟨⟨i + 1, row2, togP f g, by simp, by rw [HR2.out]; exact hlen, by rw [HR2.out] at HE2; exact HE2, HGN, HB9, HG2⟩, ?_⟩
                  simp [intOf]
                  omega
          · obtain rfl : i = R := by omega
            have hfz : f = tever t s (q : Int) := by
              rw [← HG.out, show 61 - i = (60 - i) + 1 by omega, everGo_end (by omega)]
            subst hfz
            obtain ⟨ur, uw, k1, k2, k3⟩ := HE.out.box
            have hf9 := HE.out.fr
            have HRG := Lib.hid (k1.range (i := 0) (n := 3) (xs := [ur, uw, .int .u64 ((tever t s (q : Int)).turns : Int)]) rfl)
            have H69 := Lib.hid (hf9.holds H64.out (by have := HL6.out; omega))
            have hone : ([ur, uw, .int .u64 ((tever t s (q : Int)).turns : Int)] : List Value).all (·.oneCell') = true := by simp [k2.cell1, k3.cell1]; simp [Value.oneCell']
            have HBW : Hid (Below w.heap.size w wr) := HB4.out.trans (hf9.to_below (B := w.heap.size) HB4.out.size fun x hx e => by have := HLW.out; have e : x = b10 := e; omega)
            have HK2 := Lib.hid (k2.mono (Q := From w4.heap.size) fun _ h _ => h.1)
            have HK3 := Lib.hid (k3.mono (Q := From w4.heap.size) fun _ h _ => h.1)
            have HS4 := Lib.hid HB4.out.size
            rw [hR]
            clear HE k1 hf9 k2 k3 HG HBG HGR
            go_wp2_with (first | (refine wpList_load_mid rfl 25 _ rfl b10 0 rfl [ur, uw, .int .u64 ((tever t s (q : Int)).turns : Int)] _ HRG.out Try.underlying25 rfl foot_len ?_) | (refine wpList_storeB rfl 25 _ _ rfl (b3 + 1) 0 [ur, uw, .int .u64 ((tever t s (q : Int)).turns : Int)] rfl rfl H69.out (Nat.le_of_ble_eq_true rfl) foot_len hone ?_))
            refine Named.mk (fun w9 hW9 => ?_)
            have hf9 : Fr (fun q => q = b3 + 1) wr w9 := by rw [hW9]; exact Fr.setRX _ _ 0 _
            have H9 := Lib.hid (H69.out.stored hW9 (Nat.le_of_ble_eq_true rfl))
            have hl6 : b3 + 1 < w4.heap.size := by have := HL6.out; have := H4S.out; omega
            have HR4 := Lib.hid ((row_fr HK2.out hf9 hl6).mono (Wide.from HS4.out))
            have HR5 := Lib.hid ((row_fr HK3.out hf9 hl6).mono (Wide.from HS4.out))
            have HBZ : Hid (Below w.heap.size w w9) := HBW.out.trans (hf9.to_below HBW.out.size fun x hx e => by have := HBB.out; have e : x = b3 + 1 := e; omega)
            clear hW9 hf9 HK2 HK3 hl6
            go_wp2
            refine bodyPost_ret (outBox Try.results49 H9.out rfl _ Try.underlying25 rfl foot_len) rfl ?_
            exact ⟨HBZ.out, _, rfl, ur, uw, by simp, HR4.out, HR5.out⟩
end Go.Proofs.Ytcopoaaofjeklaa.G
