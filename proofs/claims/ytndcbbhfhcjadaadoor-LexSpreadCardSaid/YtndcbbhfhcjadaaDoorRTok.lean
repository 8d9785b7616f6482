/- The walk of sextantref02.Tokens. -/
import Derived.Test.YtndcbbhfhcjadaaDoorRWordS
import Derived.StillTailTactics
namespace Go.Proofs.YtndcbbhfhcjadaaDoor
open Go.RowKit

theorem blank_code : ∀ (l : Bs) (m : Bool) (i c a : Nat), blank m i l = .bad c a → c = 21
  | [], m, i, c, a, h => by cases m <;> simp [blank] at h; exact h.1.symm
  | [x], m, i, c, a, h => by
    cases m <;> simp [blank] at h
    · split at h <;> cases h
    · exact h.1.symm
  | x :: d :: r, m, i, c, a, h => by
    unfold blank at h
    split at h
    · split at h
      · exact blank_code r _ _ _ _ h
      · exact blank_code (d :: r) _ _ _ _ h
    · split at h
      · exact blank_code r _ _ _ _ h
      · split at h
        · exact blank_code (d :: r) _ _ _ _ h
        · cases h
theorem quo_code : ∀ (l acc : Bs) (i c a : Nat), quo i acc l = .bad c a → 0 < c
  | [], acc, i, c, a, h => by simp [quo] at h; omega
  | [x], acc, i, c, a, h => by
    unfold quo at h
    split at h
    · cases h
    · repeat (split at h; · injection h with h; omega)
      injection h with h; omega
  | x :: d :: r, acc, i, c, a, h => by
    unfold quo at h
    split at h
    · cases h
    · split at h
      · injection h with h; omega
      · split at h
        · split at h
          · exact quo_code r _ _ _ _ h
          · injection h with h; omega
        · exact quo_code (d :: r) _ _ _ _ h
theorem sign_code {l : Bs} {i c a : Nat} (h : sign i l = .bad c a) : 0 < c := by
  unfold sign at h
  split at h
  · injection h with h; omega
  · split at h
    · cases h
    · injection h with h; omega
  · split at h
    · cases h
    · split at h
      · cases h
      · injection h with h; omega
theorem word_code {l : Bs} {i c a : Nat} (h : word i l = .bad c a) : 0 < c := by
  unfold word at h
  split at h
  · injection h with h; omega
  · split at h
    · simp only at h
      split at h
      · injection h with h; omega
      · cases h
    · split at h
      · simp only at h
        split at h
        · injection h with h; omega
        · cases h
      · split at h
        · split at h
          · rename_i x y hq
            injection h with h _; subst h
            exact quo_code _ _ _ _ _ hq
          · cases h
        · exact sign_code h
theorem sign_at {l : Bs} {i : Nat} {t : Tk} {n : Nat} (h : sign i l = .ok (t, n)) : t.at_ = i := by
  unfold sign at h
  split at h
  · cases h
  · split at h
    · injection h with h; injection h with h _; subst h; rfl
    · cases h
  · split at h
    · injection h with h; injection h with h _; subst h; rfl
    · split at h
      · injection h with h; injection h with h _; subst h; rfl
      · cases h
theorem word_at {l : Bs} {i : Nat} {t : Tk} {n : Nat} (h : word i l = .ok (t, n)) : t.at_ = i := by
  unfold word at h
  split at h
  · cases h
  · split at h
    · simp only at h
      split at h
      · cases h
      · injection h with h; injection h with h _; subst h; rfl
    · split at h
      · simp only at h
        split at h
        · cases h
        · injection h with h; injection h with h _; subst h; rfl
      · split at h
        · split at h
          · cases h
          · injection h with h; injection h with h _; subst h; rfl
        · exact sign_at h

/-- What is told behind words that are read already. -/
def prep (acc : List Tk) : Res (List Tk) → Res (List Tk)
  | .ok ts => .ok (acc ++ ts)
  | .bad c a => .bad c a
theorem prep_nil (R : Res (List Tk)) : prep [] R = R := by cases R <;> rfl
theorem prep_prep (a b : List Tk) (R : Res (List Tk)) : prep a (prep b R) = prep (a ++ b) R := by cases R <;> simp [prep]

theorem rest_len (s : ByteArray) (i : Nat) : (rest s i).length = s.size - i := by unfold rest; rw [List.length_drop]; simp
theorem tk_bad {s : ByteArray} {i c a : Nat} (h : blank false i (rest s i) = .bad c a) : tk i (rest s i) = .bad c a := by rw [tk_eq, h]
theorem tk_end {s : ByteArray} {i k : Nat} (h : blank false i (rest s i) = .ok k) (hk : s.size ≤ k) : tk i (rest s i) = .ok [] := by
  have h1 := blank_ge _ _ _ _ h
  rw [tk_eq, h]
  simp only
  rw [rest_drop, rest_end (by omega)]
theorem tk_wbad {s : ByteArray} {i k c a : Nat} (h : blank false i (rest s i) = .ok k) (hk : k < s.size) (hw : word k (rest s k) = .bad c a) : tk i (rest s i) = .bad c a := by
  have h1 := blank_ge _ _ _ _ h
  rw [tk_eq, h]
  simp only
  rw [rest_drop, show i + (k - i) = k by omega]
  rw [rest_cons hk] at hw ⊢
  simp only [hw]
theorem tk_step {s : ByteArray} {i k n : Nat} {t : Tk} (h : blank false i (rest s i) = .ok k) (hk : k < s.size) (hw : word k (rest s k) = .ok (t, n)) : tk i (rest s i) = prep [t] (tk n (rest s n)) := by
  have h1 := blank_ge _ _ _ _ h
  have h2 := word_ge hw
  rw [tk_eq, h]
  simp only
  rw [rest_drop, show i + (k - i) = k by omega]
  have e : (rest s k).drop (n - k) = rest s n := by rw [rest_drop, show k + (n - k) = n by omega]
  rw [rest_cons hk] at hw e ⊢
  simp only [hw, e]
  cases tk n (rest s n) <;> rfl

/-- A text's words, or why there are none. -/
def tokensOf (s : ByteArray) : Res (List Tk) := if 65536 < s.size then .bad 2 0 else tk 0 (rest s 0)
def tkCells (t : Tk) : List Value := [.int .i64 (t.kind : Int), .string ⟨t.text.toArray⟩, .int .i64 (t.num : Int), .int .i64 (t.at_ : Int)]
def flatT (ts : List Tk) : List Value := ts.flatMap tkCells
theorem flatT_app (ts : List Tk) (t : Tk) : flatT ts ++ tkCells t = flatT (ts ++ [t]) := by simp [flatT]

def TokensPost (E : TypeId) (R : Res (List Tk)) (w : World) (e : Ending) (w' : World) : Prop :=
  Below w.heap.size w w' ∧ match R with
  | .ok ts => ∃ v, e = .returned (.tuple #[v, mish 0 0]) ∧ w'.ownsRow w.heap.size E 4 v ts.length (flatT ts)
  | .bad c a => 0 < c ∧ e = .returned (.tuple #[.slice none 0 0, mish c a])

theorem own_put {w : World} {base g i : Nat} {e t : TypeId} {size n : Nat} {v u : Value} {xs cs : List Value} (h : w.ownsRow base e size v n xs) (hH : Holds w g t cs) (hne : e ≠ t) : (w.setCell ⟨g, i, none⟩ u).ownsRow base e size v n xs :=
  ((Fr.refl (fun k => k = g) w).setCell (fun _ => rfl) u).owns h (fun k hk e => owns_ne_holds h hH hne (by rw [hk, e]))

theorem cells_of_new (w : World) (m : Nat) (hm : w.heap.size = m) (cs : List Value) (t : TypeId) : ∀ (j : Nat) (u : Value), cs[j]? = some u → (w.alloc (.cells cs.toArray t)).cell? ((⟨m, 0, none⟩ : Addr).add j) = some u := by
  intro j u hu
  subst hm
  rw [Addr.add_lit, Nat.zero_add, (Holds.new w t cs.toArray).cell j]
  exact hu
theorem size_setCell (w : World) (p : Addr) (u : Value) : (w.setCell p u).heap.size = w.heap.size := by simp [World.setCell]

theorem out11 {w : World} {tmps : Array Value} {h : Nat} {x y : Value} (hK : Holds w h 26 [x, y]) (h3 : tmps[3]?.getD undef = .pointer (some ⟨h, 0, none⟩)) :
    (results Tryd.f11 tmps).run Tryd.prog w = .ok (.tuple #[tmps.getD 2 undef, .agg #[x, y]]) w := by
  have d0 := hK.cell 0
  have d1 := hK.cell 1
  simp at d0 d1
  simp [results, Tryd.results11, h3, go_sem, d0, d1]

set_option maxHeartbeats 4000000 in
set_option maxRecDepth 100000 in
theorem refTokens (s : ByteArray) (w : World) : Calls Tryd.prog 11 #[.string s] w (TokensPost 34 (tokensOf s) w) := by
  by_cases hbig : 65536 < s.size
  · have hR : tokensOf s = .bad 2 0 := if_pos hbig
    rw [hR]
    have hM := Holds.new w 26 #[.int .i64 0, .int .i64 0]
    have hB : Below w.heap.size w (w.alloc (.cells #[.int .i64 0, .int .i64 0] 26)) := (Below.refl _ _).alloc (Nat.le_refl _) _
    go_enter Tryd.func11, Tryd.ntmps11
    go_wp2_with (fail)
    refine (refBad 2 0 _).mono ?_
    rintro e w2 ⟨rfl, hb2⟩
    have hM2 := hM.belowAll hb2
    have hB2 := hB.trans (hb2.mono hB.size)
    have d0 := hM2.cell 0
    have d1 := hM2.cell 1
    have g0 := hM2.free 0
    have g1 := hM2.free 1
    simp at d0 d1
    unfold mish
    go_wp2
    exact bodyPost_ret (out11 ((hM2.put 0 _).put 1 _) rfl) rfl ⟨(hB2.setCell (Nat.le_refl _) _).setCell (Nat.le_refl _) _, by omega, rfl⟩
  · have hs : s.size ≤ 65536 := by omega
    have hbig' : decide ((65536 : Int) < (s.size : Int)) = false := by simp; omega
    obtain ⟨R, hR⟩ : ∃ R, R = tk 0 (rest s 0) := ⟨_, rfl⟩
    have hR' : tokensOf s = R := (if_neg hbig).trans hR.symm
    rw [hR']
    have HR := Lib.hid hR
    clear hR hR'
    go_enter Tryd.func11, Tryd.ntmps11
    go_wp2
    go_loopw [4, 5] (fun v n wr => ∃ (i : Nat) (acc : List Tk), n = .int .i64 (i : Int) ∧ i ≤ s.size ∧ acc.length ≤ i ∧ Hid (R = prep acc (tk i (rest s i))) ∧ wr.ownsRow w.heap.size 34 4 v acc.length (flatT acc) ∧ Holds wr w.heap.size 26 [.int .i64 0, .int .i64 0] ∧ Below w.heap.size w wr) (fun _ n _ => (s.size + 10 - intOf n).toNat)
    case atStart =>
      exact ⟨0, [], rfl, by omega, by simp, (show _ = _ by rw [HR.out, prep_nil]), ⟨rfl, .inl ⟨rfl, rfl⟩⟩, Holds.new w _ _, (Below.refl _ _).alloc (Nat.le_refl _) _⟩
    case round =>
      obtain ⟨i, acc, rfl, hi, hai, HI, hown, hM, hB⟩ := hrel
      go_wp2_with (fail)
      refine (refBlank s i hi hs _).mono ?_
      rintro e w2 ⟨hb2, hp⟩
      have hM2 := hM.belowAll hb2
      have hB2 := hB.trans (hb2.mono hB.size)
      have hown2 := (Fr.of_below hb2 (fun _ => False)).owns hown (fun _ _ h => h)
      cases hbl : blank false i (rest s i) with
      | bad c a =>
        rw [hbl] at hp
        obtain ⟨j, rfl⟩ := hp
        have hc := blank_code _ _ _ _ _ hbl
        subst hc
        have HQ := Lib.hid (tk_bad hbl)
        clear hbl
        have hMa := hM2.alloc (.cells #[.int .i64 21, .int .i64 (a : Nat)] 26)
        have hBa := hB2.alloc hB2.size (.cells #[.int .i64 21, .int .i64 (a : Nat)] 26)
        have d0 := hMa.cell 0
        have d1 := hMa.cell 1
        have g0 := hMa.free 0
        have g1 := hMa.free 1
        simp at d0 d1
        unfold mish
        go_wp2
        go_region
        go_wp2
        exact bodyPost_ret (out11 (show Holds _ _ _ _ from (hMa.put 0 _).put 1 _) rfl) rfl ⟨((hBa.setCell (Nat.le_refl _) _).setCell (Nat.le_refl _) _).drew, by rw [HI.out, HQ.out]; exact ⟨by omega, rfl⟩⟩
      | ok k =>
        rw [hbl] at hp
        simp only at hp
        subst hp
        unfold mish
        have hk1 := blank_ge _ _ _ _ hbl
        rw [rest_len] at hk1
        have hMa := hM2.alloc (.cells #[.int .i64 0, .int .i64 0] 26)
        have hBa := hB2.alloc hB2.size (.cells #[.int .i64 0, .int .i64 0] 26)
        have d0 := hMa.cell 0
        have d1 := hMa.cell 1
        have g0 := hMa.free 0
        have g1 := hMa.free 1
        simp at d0 d1
        by_cases hk : k < s.size
        · have hk' : decide ((s.size : Int) ≤ (k : Int)) = false := by simp; omega
          go_wp2_with (fail)
          refine (refWord s k hk hs _).mono ?_
          rintro e w3 ⟨hb3, hp⟩
          clear d0 d1 g0 g1
          have hM3 := hMa.belowAll hb3
          have hB3 := hBa.trans (hb3.mono hBa.size)
          have h73 := (Holds.new w2 26 #[.int .i64 0, .int .i64 0]).belowAll hb3
          have hown3 := (Fr.of_below hb3 (fun _ => False)).owns (hown2.alloc (.cells #[.int .i64 0, .int .i64 0] 26)) (fun _ _ h => h)
          have hlt := hM2.lt
          have hne : w.heap.size ≠ w2.heap.size := by omega
          have hne' : w2.heap.size ≠ w.heap.size := by omega
          cases hw : word k (rest s k) with
          | bad c a =>
            rw [hw] at hp
            simp only at hp
            subst hp
            have hc := word_code hw
            have hc' : ((c : Int) != 0) = true := by simp; omega
            have HQ := Lib.hid (tk_wbad hbl hk hw)
            clear hbl hw
            have hM4 := hM3.alloc (.cells #[.int .i64 0, .string ⟨#[]⟩, .int .i64 0, .int .i64 0] 34)
            have hB4 := hB3.alloc hB3.size (.cells #[.int .i64 0, .string ⟨#[]⟩, .int .i64 0, .int .i64 0] 34)
            have h74 := h73.alloc (.cells #[.int .i64 0, .string ⟨#[]⟩, .int .i64 0, .int .i64 0] 34)
            have d0 := hM4.cell 0
            have d1 := hM4.cell 1
            have g0 := hM4.free 0
            have g1 := hM4.free 1
            simp at d0 d1
            have k0 := h74.cell 0
            have k1 := h74.cell 1
            have y0 := h74.free 0
            have y1 := h74.free 1
            simp at k0 k1
            unfold tok mish
            go_wp2
            go_region
            go_wp2
            refine bodyPost_ret (out11 (show Holds _ _ _ _ from (((hM4.far hne _).far hne _).put 0 _).put 1 _) rfl) rfl ⟨?_, ?_⟩
            · exact ((((hB4.setCell (Nat.le_of_lt hlt) _).setCell (Nat.le_of_lt hlt) _).setCell (Nat.le_refl _) _).setCell (Nat.le_refl _) _).drew
            · rw [HI.out, HQ.out]
              exact ⟨hc, rfl⟩
          | ok r =>
            obtain ⟨t, n⟩ := r
            rw [hw] at hp
            simp only at hp
            subst hp
            have hn := word_ge hw
            rw [rest_len] at hn
            have hat := word_at hw
            have HQ := Lib.hid (tk_step hbl hk hw)
            clear hbl hw
            subst hat
            have hlt3 := h73.lt
            have hne3 : w3.heap.size ≠ w2.heap.size := by omega
            have hne3' : w2.heap.size ≠ w3.heap.size := by omega
            have k0 := h73.cell 0
            have k1 := h73.cell 1
            have y0 := h73.free 0
            have y1 := h73.free 1
            simp at k0 k1
            obtain ⟨W, hW⟩ : ∃ W, W = ((w3.setCell ⟨w2.heap.size, 0, none⟩ (.int .i64 0)).setCell ⟨w2.heap.size, 1, none⟩ (.int .i64 0)).alloc (.cells (tkCells t).toArray 34) := ⟨_, rfl⟩
            have hWs : W.heap.size = w3.heap.size + 1 := by rw [hW]; simp
            have hownW : W.ownsRow w.heap.size 34 4 u4 acc.length (flatT acc) := by
              rw [hW]
              exact (own_put (own_put hown3 h73 (by decide)) (h73.put 0 _) (by decide)).alloc _
            have hMW : Holds W w.heap.size 26 [.int .i64 0, .int .i64 0] := by
              rw [hW]
              exact ((hM3.far hne _).far hne _).alloc _
            have hBW : Below w.heap.size w W := by
              rw [hW]
              exact ((hB3.setCell (Nat.le_of_lt hlt) _).setCell (Nat.le_of_lt hlt) _).alloc (by rw [size_setCell, size_setCell]; omega) _
            have HW := Lib.hid hW
            clear hW
            unfold tok mish
            obtain ⟨i0, hi0, hz0, hz1, hz2⟩ := info_parts Tryd.info34
            go_wp2_with (at_builtin; refine wpList_append_own_at _ rfl (.tmp 43) (.tmp 45) _ rfl w.heap.size 34 i0 _ 4 40 Tryd.underlying29 hi0 hz0 hz1 hz2 rfl (by omega) u4 acc.length (flatT acc) rfl (show World.ownsRow (((World.alloc ((w3.setCell ⟨w2.heap.size, 0, none⟩ (.int .i64 0)).setCell ⟨w2.heap.size, 1, none⟩ (.int .i64 0)) (.cells (tkCells t).toArray 34))).alloc (.cells (tkCells t).toArray 34)) _ _ _ _ _ _ by rw [← HW.out]; exact hownW.alloc _) ⟨w3.heap.size + 1, 0, none⟩ 1 1 (tkCells t) rfl rfl ?c1 ?c2 ?c3 ?c4 ?c5 ?_)
            case c1 => exact cells_of_new _ _ (by rw [← hWs, HW.out]; rfl) (tkCells t) 34
            case c2 => simp [tkCells, Value.oneCell']
            case c3 => unfold maxLen; omega
            case c4 => omega
            case c5 => have := hBW.size; rw [hWs] at this; simp; omega
            intro v' w5 hown5 hgrow _ _
            have hgrow' : (W.alloc (.cells (tkCells t).toArray 34)).grownBy w5 u4.ownBlock := by rw [HW.out]; exact hgrow
            have hM5 := own_kept (hownW.alloc (.cells (tkCells t).toArray 34)) hgrow' (hMW.alloc _) (by decide)
            have hB5 := below_own (hBW.alloc hBW.size (.cells (tkCells t).toArray 34)) (hownW.alloc _) hgrow'
            go_wp2
            have hlen : (acc ++ [t]).length = acc.length + 1 := by simp
            exact ⟨⟨n, acc ++ [t], rfl, by omega, by omega, (show _ = _ by rw [HI.out, HQ.out, prep_prep]), (by rw [hlen, ← flatT_app]; exact hown5), hM5, hB5⟩, by simp [intOf]; omega⟩
        · have HQ := Lib.hid (tk_end hbl (by omega))
          have hk' : (s.size : Int) ≤ (k : Int) := by omega
          clear hbl
          go_wp2
          exact bodyPost_ret (out11 ((hMa.put 0 _).put 1 _) rfl) rfl ⟨(hBa.setCell (Nat.le_refl _) _).setCell (Nat.le_refl _) _, by
            rw [HI.out, HQ.out]
            refine ⟨u4, rfl, ?_⟩
            simp only [List.append_nil]
            exact own_put (own_put (hown2.alloc _) hMa (by decide)) (hMa.put 0 _) (by decide)⟩
end Go.Proofs.YtndcbbhfhcjadaaDoor
