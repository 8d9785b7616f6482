/- Rows of moves; the walk of ample.alone; the sizes of footprints. -/
import Derived.Test.YtcopoaaofjeklaaAhe
import Derived.Test.YtcopoaaofjeklaaAev
import Derived.Test.YtcopoaaofjeklaaMa8
namespace Go.Proofs.Ytcopoaaofjeklaa.G
open Go.RowKit Go.Maps
set_option linter.unusedVariables false
set_option linter.unusedSimpArgs false

theorem there_big {t : PThr} (ht : OkT t) (s : ByteArray) (p : Int) : BigF (there t s p) 1000 := by
  unfold there
  split
  · split
    · exact zero_big _
    · split
      · rename_i l k e1 e2
        exact hereF_big ht (List.mem_of_getElem? e1) _
      · exact zero_big _
  · exact zero_big _
theorem everGo_big {t : PThr} (ht : OkT t) {l : List TNode} (hl : l ∈ t.procs) : ∀ (fuel i : Nat) (row : List Int) (f : PFoot) (n : Nat), BigF f n → BigF (everGo t l fuel i row f) (n + fuel * 1000)
  | 0, i, row, f, n, h => by rw [everGo, Nat.zero_mul, Nat.add_zero]; exact h
  | fuel + 1, i, row, f, n, h => by
    rw [everGo]
    split
    · rename_i k hk
      have h1 := everGo_big ht hl fuel (i + 1) (match l[k.toNat]? with | some x => reach x.arcs row | none => row) _ _ (h.tog (hereF_big ht hl k.toNat))
      rw [Nat.add_assoc, show 1000 + fuel * 1000 = (fuel + 1) * 1000 by omega] at h1
      exact h1
    · exact ⟨Nat.le_trans h.1 (Nat.le_add_right _ _), Nat.le_trans h.2.1 (Nat.le_add_right _ _), h.2.2⟩
theorem tever_big {t : PThr} (ht : OkT t) (s : ByteArray) (p : Int) : BigF (tever t s p) 61000 := by
  unfold tever
  split
  · split
    · exact zero_big _
    · split
      · rename_i l k e1 e2
        exact everGo_big ht (List.mem_of_getElem? e1) 61 0 _ _ 0 (zero_big 0)
      · exact zero_big _
  · exact zero_big _
theorem BigF.small {f : PFoot} {n : Nat} (h : BigF f n) (hn : n ≤ 2000000) : SmallF f := ⟨Nat.le_trans h.1 (Nat.le_trans hn (by omega)), Nat.le_trans h.2.1 (Nat.le_trans hn (by omega))⟩

def MvF (P : Nat → Prop) (w : World) (a : PMove) (c : List Value) : Prop := ∃ vr vw, c = mvC a vr vw ∧ RowL P w 1 vr a.reads.length (a.reads.map intV) ∧ RowL P w 1 vw a.writes.length (a.writes.map intV)
theorem MvF.mono {P Q : Nat → Prop} {w : World} (hl : Wide P Q w) {a : PMove} {c : List Value} (h : MvF P w a c) : MvF Q w a c := by
  obtain ⟨vr, vw, h1, h2, h3⟩ := h
  exact ⟨vr, vw, h1, h2.mono hl, h3.mono hl⟩
theorem oneMv : One MvF 9 := ⟨fun ⟨vr, vw, h, _⟩ => by rw [h]; rfl, fun ⟨vr, vw, h, h2, h3⟩ => by
  have q1 := h2.cell1
  have q2 := h3.cell1
  rw [h]
  simp [mvC, q1, q2]
  simp [Value.oneCell'], fun hu ⟨vr, vw, h1, h2, h3⟩ => ⟨vr, vw, h1, h2.up hu, h3.up hu⟩⟩
theorem MvF.of {P : Nat → Prop} {w : World} {a : PMove} {c : List Value} (h : MovG P w a c) : MvF P w a c := by
  obtain ⟨vr, vw, h1, h2, h3⟩ := h
  exact ⟨vr, vw, h1, h2.1, h3.1⟩
/-- Moves, as a list in memory. -/
def MvsV (P : Nat → Prop) (w : World) (v : Value) (l : List PMove) : Prop := ∃ f, RowL P w 9 v l.length f ∧ LsF MvF P w l f
theorem MvsV.up {P : Nat → Prop} {w w' : World} {v : Value} {l : List PMove} (h : MvsV P w v l) (hu : Keep P w w') : MvsV P w' v l := by
  obtain ⟨f, h1, h2⟩ := h
  exact ⟨f, h1.up hu, LsF.up (fun _ _ => oneMv.up hu) _ h2⟩
theorem MvsV.mono {P Q : Nat → Prop} {w : World} {v : Value} {l : List PMove} (h : MvsV P w v l) (hl : Wide P Q w) : MvsV Q w v l := by
  obtain ⟨f, h1, h2⟩ := h
  exact ⟨f, h1.mono hl, LsF.mono (fun _ _ => MvF.mono hl) _ h2⟩
theorem MvsV.nil (P : Nat → Prop) (w : World) : MvsV P w (.slice none 0 0) [] := ⟨[], RowL.nil _ _ _, rfl⟩
theorem alone_at {p : Int} {ms : List PMove} {i : Nat} (hi : i < ms.length) (l : List PMove) (o : Bool) : aloneGo p (ms.drop i) l o = if ms[i].wth = p then ([], false) else if ms[i].proc ≠ p then aloneGo p (ms.drop (i + 1)) l true else if ms[i].bad ≠ 0 ∨ 0 ≤ ms[i].wth then ([], false) else aloneGo p (ms.drop (i + 1)) (l ++ [ms[i]]) o := by
  rw [List.drop_eq_getElem_cons hi, aloneGo]
/-- What alone's loop keeps. -/
structure AloS (w : World) (l : List PMove) (v : Value) (W : World) : Prop where
  below : Below w.heap.size w W
  row : ∃ fo, W.ownsRow w.heap.size 44 9 v l.length fo ∧ LsF MvF (fun q => q < w.heap.size) W l fo
theorem AloS.fresh {w W W' : World} {l : List PMove} {v : Value} (h : AloS w l v W) (hb : Below W.heap.size W W') : AloS w l v W' := by
  obtain ⟨fo, h1, h2⟩ := h.row
  exact ⟨h.below.trans (hb.mono h.below.size), fo, owns_below h1 hb, LsF.up (fun _ _ => oneMv.up (Keep.below hb)) _ h2⟩
theorem AloS.app {w W W4 : World} {l : List PMove} {y : PMove} {v v' : Value} {fo c : List Value} {o : Obj} (h : AloS w l v W) (hr : W.ownsRow w.heap.size 44 9 v l.length fo) (hfo : LsF MvF (fun q => q < w.heap.size) W l fo) (hy : MvF (fun q => q < w.heap.size) W y c)
    (hown : W4.ownsRow w.heap.size 44 9 v' (l.length + 1) (fo ++ c)) (hgr : (W.alloc o).grownBy W4 v.ownBlock) : AloS w (l ++ [y]) v' W4 := by
  have hvg := owns_ge hr
  have hf4 : Fr (fun q => v.ownBlock = some q) W W4 := ((Fr.refl _ W).alloc o).grown hgr fun q hq _ => hq
  have hs := h.below.size
  refine ⟨h.below.trans (hf4.to_below hs fun k hk e => ?_), fo ++ c, by rw [List.length_append]; exact hown, LsF.up (fun _ _ => oneMv.up fun k hk hs => hf4.block k hs fun e => ?_) _ (LsF.append hfo (LsF.sing hy))⟩
  · have := hvg k e; omega
  · have h1 := hvg k e
    have h2 : k < w.heap.size := hk
    omega
theorem AloS.out {w W : World} {l : List PMove} {v : Value} (h : AloS w l v W) : MvsV (fun _ => True) W v l := by
  obtain ⟨fo, h1, h2⟩ := h.row
  exact ⟨fo, RowL.of_owns h1 fun _ _ => trivial, LsF.mono (fun _ _ => MvF.mono fun _ _ _ => trivial) _ h2⟩
def AlnPost (r : List PMove × Bool) (w : World) (e : Ending) (w' : World) : Prop := Below w.heap.size w w' ∧ ∃ vl, e = .returned (.tuple #[vl, .bool r.2]) ∧ MvsV (fun _ => True) w' vl r.1
set_option maxHeartbeats 4000000 in
set_option maxRecDepth 100000 in
theorem aloneFn {P : Nat → Prop} {w : World} {v : Value} {ms : List PMove} {p : Int} (h : MvsV P w v ms) (hn : ms.length ≤ 2000000) : Calls Try.prog 21 #[v, .int .i64 p] w (AlnPost (aloneP p ms) w) := by
  obtain ⟨i0, z0, hi0, hz0, hz1, hz2, hz3⟩ := info_of info_move
  obtain ⟨f, hr, hg⟩ := h.mono (Q := fun q => q < w.heap.size) fun q _ hq => hq
  obtain ⟨a, c, rfl, hc1, _, _⟩ := hr.form
  obtain ⟨N, hN⟩ : ∃ N, ms.length = N := ⟨_, rfl⟩
  have HR := Lib.hid hr
  have HG := Lib.hid hg
  have HN := Lib.hid hN
  rw [hN] at hc1 hn
  rw [hN]
  obtain ⟨r0, hr0⟩ : ∃ r, aloneP p ms = r := ⟨_, rfl⟩
  have H0 := Lib.hid hr0
  rw [hr0]
  clear h hr hg hN hr0
  go_enter Try.func21, Try.ntmps21
  go_wp2
  go_loopw [6, 7, 12] (fun vo ot x wr => ∃ (i : Nat) (l : List PMove) (o : Bool), x = .int .i64 (i : Int) ∧ ot = .bool o ∧ i ≤ N ∧ l.length ≤ i ∧ Hid (aloneGo p (ms.drop i) l o = r0) ∧ Hid (AloS w l vo wr)) (fun _ _ x _ => N - (intOf x).toNat)
  case atStart => exact ⟨0, [], false, rfl, rfl, Nat.zero_le _, Nat.le_refl _, H0.out, Below.refl _ _, [], World.ownsRow_nil _ _ _ _, rfl⟩
  case round =>
    obtain ⟨i, l, o, hx, ho, hi, hli, HA, HS⟩ := hrel
    subst hx ho
    obtain ⟨fo, hro, hfo⟩ := HS.out.row
    obtain ⟨L, hL⟩ : ∃ L, l.length = L := ⟨_, rfl⟩
    have HL := Lib.hid hL
    rw [hL] at hro hli
    obtain ⟨ao, co, hvo, hco, _⟩ := owns_form hro
    rw [hvo] at HS hro ⊢
    clear hvo
    have HRO := Lib.hid hro
    have HFO := Lib.hid hfo
    clear hro hfo hL
    by_cases hin : i < N
    · have hil : i < ms.length := by rw [HN.out]; exact hin
      have hi2i : (i : Int) < (N : Int) := by omega
      have hi0i : (0 : Int) ≤ (i : Int) := by omega
      have hwii : IntKind.i64.wrap (i : Int) = (i : Int) := by rw [IntKind.wrap_i64]; omega
      have hwji : IntKind.i64.wrap ((i : Int) + 1) = (i : Int) + 1 := by rw [IntKind.wrap_i64]; omega
      obtain ⟨ga, oa, ca, cs, he, hG, hrr⟩ := (HR.out.up (Keep.below HS.out.below)).atN oneMv (LsF.up (fun _ _ => oneMv.up (Keep.below HS.out.below)) _ HG.out) hil
      injection he with he _ hec
      subst he hec
      obtain ⟨m, hm⟩ : ∃ m, ms[i] = m := ⟨_, rfl⟩
      rw [hm] at hG
      have hstep := alone_at (p := p) hil l o
      rw [hm, HA.out] at hstep
      have HST := Lib.hid hstep
      have hG0 := hG
      obtain ⟨vr, vw, rfl, p1, p2⟩ := hG
      obtain ⟨a1, k1, rfl, _, _, _⟩ := p1.form
      obtain ⟨a2, k2, rfl, _, _, _⟩ := p2.form
      have HY := Lib.hid hG0
      obtain ⟨n1, hn1⟩ : ∃ n, m.reads.length = n := ⟨_, rfl⟩
      obtain ⟨n2, hn2⟩ : ∃ n, m.writes.length = n := ⟨_, rfl⟩
      rw [hn1, hn2] at hrr HY
      clear hm hstep hG0 p1 p2 hn1 hn2
      obtain ⟨mp, me, mw, mx, md, mb, mr, mt, mu⟩ := m
      have HRR := Lib.hid hrr
      simp only [mvC] at HRR
      have HZA := Lib.hid (Holds.new wr 44 #[.int .i64 0, .int .i64 0, .int .i64 0, .int .i64 0, .string ⟨#[]⟩, .int .i64 0, .slice none 0 0, .slice none 0 0, .int .u64 0])
      clear hrr
      go_wp2_with (first | (refine wpList_load_mid rfl 44 _ rfl ga (oa + i * 9) rfl [.int .i64 mp, .int .i64 me, .int .i64 mw, .int .i64 mx, .string md, .int .i64 mb, .slice a1 n1 k1, .slice a2 n2 k2, .int .u64 (mu : Int)] _ HRR.out Try.underlying44 rfl sz_Move ?_) | (refine wpList_storeB rfl 44 _ _ rfl wr.heap.size 0 [.int .i64 mp, .int .i64 me, .int .i64 mw, .int .i64 mx, .string md, .int .i64 mb, .slice a1 n1 k1, .slice a2 n2 k2, .int .u64 (mu : Int)] rfl rfl HZA.out (Nat.le_of_ble_eq_true rfl) sz_Move rfl ?_))
      refine Named.mk (fun w6 hW6 => ?_)
      have hb6 : Below wr.heap.size wr w6 := by rw [hW6]; exact Below.far (Below.refl _ _) (Nat.le_refl _) _ _ _
      have h14 : Holds w6 wr.heap.size 44 [.int .i64 mp, .int .i64 me, .int .i64 mw, .int .i64 mx, .string md, .int .i64 mb, .slice a1 n1 k1, .slice a2 n2 k2, .int .u64 (mu : Int)] := HZA.out.stored hW6 (Nat.le_of_ble_eq_true rfl)
      obtain ⟨b14, hb14⟩ : ∃ b, wr.heap.size = b := ⟨_, rfl⟩
      rw [hb14] at h14 ⊢
      have HS6 := Lib.hid (HS.out.fresh hb6)
      have HO6 := Lib.hid (owns_below HRO.out hb6)
      have HF6 := Lib.hid (LsF.up (fun _ _ => oneMv.up (Keep.below hb6)) _ HFO.out)
      have HY6 := Lib.hid (oneMv.up (Keep.below hb6) HY.out)
      have x0 := h14.cell 0
      have x2 := h14.cell 2
      have x5 := h14.cell 5
      simp only [List.getElem?_cons_zero, List.getElem?_cons_succ] at x0 x2 x5
      have HRG := Lib.hid (h14.range (i := 0) (n := 9) (xs := [.int .i64 mp, .int .i64 me, .int .i64 mw, .int .i64 mx, .string md, .int .i64 mb, .slice a1 n1 k1, .slice a2 n2 k2, .int .u64 (mu : Int)]) rfl)
      clear hW6 hb6 h14 HZA HRR hb14 HS HRO HFO HY
      by_cases h1 : mw = p
      · have d1 : (mw == p) = true := by simpa using h1
        have hz := HST.out
        rw [if_pos h1] at hz
        subst hz
        have HB6 := Lib.hid HS6.out.below
        clear h1 HST HA
        go_wp2
        go_ret2
        exact ⟨HB6.out, _, rfl, MvsV.nil _ _⟩
      · have d1 : (mw == p) = false := by simpa using h1
        replace HST := Lib.hid (HST.out.trans (if_neg h1))
        clear h1
        by_cases h2 : mp ≠ p
        · have d2 : (mp != p) = true := by simpa using h2
          replace HST := Lib.hid (HST.out.trans (if_pos h2))
          clear h2
          go_wp2
          refine ⟨⟨i + 1, l, true, by simp, rfl, by omega, by rw [HL.out]; omega, Lib.hid HST.out.symm, HS6⟩, ?_⟩
          simp [intOf]
          omega
        · have d2 : (mp != p) = false := by simpa using h2
          replace HST := Lib.hid (HST.out.trans (if_neg h2))
          clear h2
          by_cases h3 : mb ≠ 0 ∨ 0 ≤ mw
          · have hz := HST.out
            rw [if_pos h3] at hz
            subst hz
            have HB6 := Lib.hid HS6.out.below
            clear HST HA
            by_cases h4 : mb = 0
            · have h5 : 0 ≤ mw := by
                rcases h3 with h3 | h3
                · exact absurd h4 h3
                · exact h3
              have d3 : (mb != 0) = false := by simpa using h4
              clear h3 h4
              go_wp2
              go_ret2
              exact ⟨HB6.out, _, rfl, MvsV.nil _ _⟩
            · have d3 : (mb != 0) = true := by simpa using h4
              clear h3 h4
              by_cases h5 : 0 ≤ mw
              · go_wp2
                go_ret2
                exact ⟨HB6.out, _, rfl, MvsV.nil _ _⟩
              · go_wp2
                go_ret2
                exact ⟨HB6.out, _, rfl, MvsV.nil _ _⟩
          · have h4 : mb = 0 := by
              by_cases h4 : mb = 0
              · exact h4
              · exact absurd (.inl h4) h3
            have d3 : (mb != 0) = false := by simpa using h4
            have h5 : ¬ 0 ≤ mw := fun h => h3 (.inr h)
            replace HST := Lib.hid (HST.out.trans (if_neg h3))
            clear h3 h4
            go_wp2_with (first | (refine wpList_load_mid rfl 44 _ rfl b14 0 rfl [.int .i64 mp, .int .i64 me, .int .i64 mw, .int .i64 mx, .string md, .int .i64 mb, .slice a1 n1 k1, .slice a2 n2 k2, .int .u64 (mu : Int)] _ HRG.out Try.underlying44 rfl sz_Move ?_) | (refine halt_call2 { callee := .builtin .append, args := #[.tmp 35, .tmp 37], argTypes := #[38, 38] } rfl ?_))
            refine Stop.mk ?_
            refine wpList_append_own_at _ rfl (.tmp 35) (.tmp 37) _ rfl w.heap.size 44 i0 z0 9 112 Try.underlying38 hi0 hz0 hz1 hz2 hz3 (by omega) (.slice ao L co) L fo rfl (owns_below HO6.out ((Below.refl _ _).alloc (Nat.le_refl _) _)) ⟨w6.heap.size, 0, none⟩ 1 1 [.int .i64 mp, .int .i64 me, .int .i64 mw, .int .i64 mx, .string md, .int .i64 mb, .slice a1 n1 k1, .slice a2 n2 k2, .int .u64 (mu : Int)] rfl rfl ?c1 ?c2 ?c3 ?c4 ?c5 ?_
            case c1 => exact fun jj u hu => by rw [Addr.add_lit, Nat.zero_add]; exact ((Holds.new w6 44 ([.int .i64 mp, .int .i64 me, .int .i64 mw, .int .i64 mx, .string md, .int .i64 mb, .slice a1 n1 k1, .slice a2 n2 k2, .int .u64 (mu : Int)] : List Value).toArray).cell jj).trans hu
            case c2 => simp [Value.oneCell']
            case c3 => unfold maxLen; omega
            case c4 => omega
            case c5 => have := HS6.out.below.size; simp; omega
            intro v' W9 hown hgrow _ hblk
            obtain ⟨av9, cv9, rfl, _, _⟩ := owns_form hown
            have HS9 : Hid (AloS w (l ++ [⟨mp, me, mw, mx, md, mb, mr, mt, mu⟩]) (.slice av9 (L + 1) cv9) W9) := HS6.out.app (by rw [HL.out]; exact HO6.out) HF6.out HY6.out (by rw [HL.out]; exact hown) hgrow
            clear hown hgrow hblk x0 x2 x5 HRG HO6 HF6 HY6 HS6
            go_wp2
            refine ⟨⟨i + 1, l ++ [⟨mp, me, mw, mx, md, mb, mr, mt, mu⟩], o, by simp, rfl, by omega, by rw [List.length_append, HL.out]; simp; omega, Lib.hid HST.out.symm, HS9⟩, ?_⟩
            simp [intOf]
            omega
    · obtain rfl : i = N := by omega
      have hz := HA.out
      rw [List.drop_of_length_le (by rw [HN.out]; exact Nat.le_refl _), aloneGo, HL.out] at hz
      have HOU := Lib.hid HS.out.out
      have HBW := Lib.hid HS.out.below
      have HZ := Lib.hid hz
      clear hz HA HS HRO HFO
      cases o with
      | false =>
        go_wp2
        go_ret2
        refine ⟨HBW.out, .slice ao L co, ?_, ?_⟩
        · rw [← HZ.out]; rfl
        · rw [← HZ.out]; exact HOU.out
      | true =>
        by_cases hl0 : 0 < L
        · go_wp2
          go_ret2
          refine ⟨HBW.out, .slice ao L co, ?_, ?_⟩
          · rw [← HZ.out]; simp [hl0]
          · rw [← HZ.out]; exact HOU.out
        · go_wp2
          go_ret2
          refine ⟨HBW.out, .slice ao L co, ?_, ?_⟩
          · rw [← HZ.out]; simp [hl0]
          · rw [← HZ.out]; exact HOU.out
end Go.Proofs.Ytcopoaaofjeklaa.G
