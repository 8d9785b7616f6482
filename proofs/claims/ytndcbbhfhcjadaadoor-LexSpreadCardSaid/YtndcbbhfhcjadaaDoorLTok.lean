/- The walk of lex.Tokens. -/
import Derived.Test.YtndcbbhfhcjadaaDoorLWordS
namespace Go.Proofs.YtndcbbhfhcjadaaDoor
open Go.RowKit
set_option linter.unusedVariables false

/-- A word, read from a place further on. -/
def shW (i : Nat) : Res (Tk × Nat) → Res (Tk × Nat)
  | .ok (t, n) => .ok (⟨t.kind, t.text, t.num, i + t.at_⟩, i + n)
  | .bad c a => .bad c (i + a)
def shQ (i : Nat) : Res (Bs × Nat) → Res (Bs × Nat)
  | .ok (b, n) => .ok (b, i + n)
  | .bad c a => .bad c (i + a)

theorem quo_shift (d : Nat) : ∀ (l acc : Bs) (i : Nat), quo (d + i) acc l = shQ d (quo i acc l)
  | [], acc, i => by simp [quo, shQ]
  | [c], acc, i => by
    unfold quo
    repeat' split
    all_goals simp [shQ]
    all_goals omega
  | c :: e :: r, acc, i => by
    unfold quo
    split
    · simp [shQ]; omega
    · split
      · simp [shQ]
      · split
        · split
          · have := quo_shift d r (acc ++ [‹UInt8›]) (i + 2)
            rw [← this, Nat.add_assoc]
          · simp [shQ]
        · have := quo_shift d (e :: r) (acc ++ [c]) (i + 1)
          rw [← this, Nat.add_assoc]

theorem sign_shift (d i : Nat) : ∀ l : Bs, sign (d + i) l = shW d (sign i l)
  | [] => by simp [sign, shW]
  | [c] => by rw [sign, sign]; split <;> simp [shW, Nat.add_assoc]
  | c :: e :: r => by
    rw [sign, sign]
    split
    · simp [shW, Nat.add_assoc]
    · split <;> simp [shW, Nat.add_assoc]

theorem word_shift (d i : Nat) (l : Bs) : word (d + i) l = shW d (word i l) := by
  cases l with
  | nil => simp [word, shW]
  | cons c r =>
    unfold word
    simp only
    split
    · split <;> simp [shW, Nat.add_assoc]
    · split
      · split <;> simp [shW, Nat.add_assoc]
      · split
        · have := quo_shift d r [] (i + 1)
          rw [← Nat.add_assoc] at this
          rw [this]
          cases quo (i + 1) [] r with
          | bad x y => simp [shQ, shW]
          | ok q => simp [shQ, shW]
        · exact sign_shift d i (c :: r)

theorem out10 {w : World} {tmps : Array Value} {h : Nat} {x y : Value} (hK : Holds w h 26 [x, y]) (h3 : tmps[3]?.getD undef = .pointer (some ⟨h, 0, none⟩)) :
    (results Tryd.f10 tmps).run Tryd.prog w = .ok (.tuple #[tmps.getD 2 undef, .agg #[x, y]]) w := by
  have d0 := hK.cell 0
  have d1 := hK.cell 1
  simp at d0 d1
  simp [results, Tryd.results10, h3, go_sem, d0, d1]

set_option maxHeartbeats 4000000 in
set_option maxRecDepth 100000 in
theorem lexTokens (s : ByteArray) (m : Int) (w : World) (hm : w.cell? ⟨1, 0, none⟩ = some (.int .i64 m)) (h1 : 1 < w.heap.size) (htab : Lib.TabIs Tryd.prog w "strings.asciiSpace" .u8 Lib.asciiSpaceTab) :
    Calls Tryd.prog 10 #[.string s] w (TokensPost 33 (tokensOf s) w) := by
  by_cases hbig : 65536 < s.size
  · have hR : tokensOf s = .bad 2 0 := if_pos hbig
    rw [hR]
    go_enter Tryd.func10, Tryd.ntmps10
    go_wp2
    go_step3
    go_wp2
    rw [Exit.noGoto_ret]
    exact bodyPost_ret (out10 (Holds.new w 26 #[.int .i64 2, .int .i64 0]) rfl) rfl ⟨(Below.refl _ _).alloc (Nat.le_refl _) _, by omega, rfl⟩
  · have hs : s.size ≤ 65536 := by omega
    have hbig' : decide ((65536 : Int) < (s.size : Int)) = false := by simp; omega
    obtain ⟨R, hR⟩ : ∃ R, R = tk 0 (rest s 0) := ⟨_, rfl⟩
    have hR' : tokensOf s = R := (if_neg hbig).trans hR.symm
    rw [hR']
    have HR := Lib.hid hR
    clear hR hR'
    go_enter Tryd.func10, Tryd.ntmps10
    go_wp2
    go_step3
    go_wp2
    go_step3
    go_wp2
    go_loopw [5] (fun v wr => ∃ (i : Nat) (acc : List Tk), i ≤ s.size ∧ acc.length ≤ i ∧ Hid (R = prep acc (tk i (rest s i))) ∧ wr.ownsRow w.heap.size 33 4 v acc.length (flatT acc) ∧ Holds wr w.heap.size 26 [.int .i64 0, .int .i64 0] ∧ Holds wr (w.heap.size + 1) 41 [.string s, .int .i64 i] ∧ Below w.heap.size w wr) (fun _ wr => (s.size + 10 - intOf ((wr.cell? ⟨w.heap.size + 1, 1, none⟩).getD undef)).toNat)
    case atStart =>
      refine ⟨0, [], by omega, by simp, (show _ = _ by rw [HR.out, prep_nil]), ⟨rfl, .inl ⟨rfl, rfl⟩⟩, (Holds.new w _ _).alloc _, ?_, ((Below.refl _ _).alloc (Nat.le_refl _) _).alloc (by simp) _⟩
      have := Holds.new (w.alloc (.cells #[.int .i64 0, .int .i64 0] 26)) 41 #[.string s, .int .i64 0]
      simpa using this
    case round =>
      obtain ⟨i, acc, hi, hai, HI, hown, hM, hS, hB⟩ := hrel
      have hX1 : 1 < w.heap.size + 1 := by omega
      have hmr := (Holds.same (hB.block 1 h1) 0).trans hm
      have hszr := hB.size
      go_wp2_with (fail)
      refine (lexBlanks s i (w.heap.size + 1) m hi hs _ hX1 hS hmr (by omega)).mono ?_
      rintro e w2 ⟨hF, hp⟩
      have hM2 := hF.holds hM (by omega)
      have hB2 := hB.trans (hF.to_below hB.size (fun k hk => by omega))
      have hown2 := hF.owns hown (fun g hg he => owns_ne_holds hown hS (by decide) (by rw [hg, he]))
      cases hbl : blank false i (rest s i) with
      | bad c a =>
        rw [hbl] at hp
        simp only at hp
        subst hp
        have hc := blank_code _ _ _ _ _ hbl
        subst hc
        have HQ := Lib.hid (tk_bad hbl)
        clear hbl
        have hMa := hM2.alloc (.cells #[.int .i64 21, .int .i64 (a : Nat)] 26)
        have hBa := hB2.alloc hB2.size (.cells #[.int .i64 21, .int .i64 (a : Nat)] 26)
        have d0 := hMa.cell 0
        have d1 := hMa.cell 1
        have g0 := hMa.free 0
        have g1 := hMa.free 1
        simp at d0 d1
        unfold mish
        go_wp2
        go_region
        go_wp2
        rw [Exit.noGoto_ret]
        exact bodyPost_ret (out10 ((hMa.put 0 _).put 1 _).drew rfl) rfl ⟨((hBa.setCell (Nat.le_refl _) _).setCell (Nat.le_refl _) _).drew, by rw [HI.out, HQ.out]; exact ⟨by omega, rfl⟩⟩
      | ok k =>
        rw [hbl] at hp
        simp only at hp
        obtain ⟨rfl, hS2⟩ := hp
        unfold mish
        have hk1 := blank_ge _ _ _ _ hbl
        rw [rest_len] at hk1
        have hMa := hM2.alloc (.cells #[.int .i64 0, .int .i64 0] 26)
        have hSa := hS2.alloc (.cells #[.int .i64 0, .int .i64 0] 26)
        have hBa := hB2.alloc hB2.size (.cells #[.int .i64 0, .int .i64 0] 26)
        have d0 := hMa.cell 0
        have d1 := hMa.cell 1
        have g0 := hMa.free 0
        have g1 := hMa.free 1
        have x1 := hSa.cell 1
        simp at d0 d1 x1
        have hmr2 := (Holds.same (hBa.block 1 h1) 0).trans hm
        have htr := tab_same htab (hBa.block 0 (Nat.lt_trans Nat.zero_lt_one h1))
        have hsz2 := hBa.size
        by_cases hk : k < s.size
        · have hk' : ((k : Int) == (s.size : Int)) = false := by simp; omega
          go_wp2_with (fail)
          refine (lexWord s k (w.heap.size + 1) m hk hs _ hX1 hSa hmr2 (by omega) htr).mono ?_
          rintro e w3 ⟨hb3, hp⟩
          clear d0 d1 g0 g1 x1 htr hmr2
          have hM3 := hMa.belowAll hb3
          have hS3 := hSa.belowAll hb3
          have hB3 := hBa.trans (hb3.mono hBa.size)
          have hown3 := (Fr.of_below hb3 (fun _ => False)).owns (hown2.alloc (.cells #[.int .i64 0, .int .i64 0] 26)) (fun _ _ h => h)
          have hsh := word_shift k 0 (rest s k)
          rw [Nat.add_zero] at hsh
          have hlt3 := hM3.lt
          have hltX := hS3.lt
          cases hw : word 0 (rest s k) with
          | bad c a =>
            rw [hw] at hp hsh
            simp only at hp
            subst hp
            have hc := word_code hw
            have hc' : ((c : Int) != 0) = true := by simp; omega
            have HQ := Lib.hid (tk_wbad hbl hk hsh)
            clear hbl hw hsh
            have hM4 := (hM3.alloc (.cells #[.int .i64 0, .string ⟨#[]⟩, .int .i64 0, .int .i64 0] 33)).alloc (.cells #[.int .i64 (c : Nat), .int .i64 ((k : Int) + (a : Int))] 26)
            have hB4 := (hB3.alloc hB3.size (.cells #[.int .i64 0, .string ⟨#[]⟩, .int .i64 0, .int .i64 0] 33)).alloc (by simp; omega) (.cells #[.int .i64 (c : Nat), .int .i64 ((k : Int) + (a : Int))] 26)
            have d0 := hM4.cell 0
            have d1 := hM4.cell 1
            have g0 := hM4.free 0
            have g1 := hM4.free 1
            simp at d0 d1
            clear hlt3 hltX
            unfold tok mish
            go_wp2
            go_region
            go_wp2
            refine bodyPost_ret (out10 ((hM4.put 0 _).put 1 _).drew rfl) rfl ⟨?_, ?_⟩
            · exact ((hB4.setCell (Nat.le_refl _) _).setCell (Nat.le_refl _) _).drew
            · rw [HI.out, HQ.out]
              exact ⟨hc, by rw [← mish_add]; rfl⟩
          | ok r =>
            obtain ⟨t0, n0⟩ := r
            rw [hw] at hp hsh
            simp only at hp
            subst hp
            have hat := word_at hw
            have hn := word_ge hw
            rw [rest_len] at hn
            have hsh' : word k (rest s k) = .ok (⟨t0.kind, t0.text, t0.num, k⟩, k + n0) := by rw [hsh]; simp [shW, hat]
            have HQ := Lib.hid (tk_step hbl hk hsh')
            clear hbl hw hsh hsh'
            have hS4 := (hS3.alloc (.cells #[.int .i64 (t0.kind : Nat), .string ⟨t0.text.toArray⟩, .int .i64 (t0.num : Nat), .int .i64 0] 33)).alloc (.cells #[.int .i64 0, .int .i64 0] 26)
            have x1 := hS4.cell 1
            have y1 := hS4.free 1
            simp at x1
            obtain ⟨W, hW⟩ : ∃ W, W = (w3.alloc (.cells #[.int .i64 (t0.kind : Nat), .string ⟨t0.text.toArray⟩, .int .i64 (t0.num : Nat), .int .i64 k] 33)).alloc (.cells #[.int .i64 0, .int .i64 0] 26) := ⟨_, rfl⟩
            have hWs : W.heap.size = w3.heap.size + 2 := by rw [hW]; simp
            have hownW : W.ownsRow w.heap.size 33 4 u5 acc.length (flatT acc) := by rw [hW]; exact (hown3.alloc _).alloc _
            have hMW : Holds W w.heap.size 26 [.int .i64 0, .int .i64 0] := by rw [hW]; exact (hM3.alloc _).alloc _
            have hSW : Holds W (w.heap.size + 1) 41 [.string s, .int .i64 k] := by rw [hW]; exact (hS3.alloc _).alloc _
            have hBW : Below w.heap.size w W := by rw [hW]; exact (hB3.alloc hB3.size _).alloc (by simp; omega) _
            have HW := Lib.hid hW
            clear hW
            have hcs : tkCells ⟨t0.kind, t0.text, t0.num, k⟩ = [.int .i64 (t0.kind : Nat), .string ⟨t0.text.toArray⟩, .int .i64 (t0.num : Nat), .int .i64 k] := rfl
            unfold tok mish
            obtain ⟨i0, hi0, hz0, hz1, hz2⟩ := info_parts Tryd.info33
            go_wp2_with (at_builtin; refine wpList_append_own_at _ rfl (.tmp 45) (.tmp 47) _ rfl w.heap.size 33 i0 _ 4 40 Tryd.underlying23 hi0 hz0 hz1 hz2 rfl (by omega) u5 acc.length (flatT acc) rfl (show World.ownsRow (((w3.alloc (.cells #[.int .i64 (t0.kind : Nat), .string ⟨t0.text.toArray⟩, .int .i64 (t0.num : Nat), .int .i64 k] 33)).alloc (.cells #[.int .i64 0, .int .i64 0] 26)).alloc (.cells #[.int .i64 (t0.kind : Nat), .string ⟨t0.text.toArray⟩, .int .i64 (t0.num : Nat), .int .i64 k] 33)) _ _ _ _ _ _ by rw [← HW.out]; exact hownW.alloc _) ⟨w3.heap.size + 1 + 1, 0, none⟩ 1 1 (tkCells ⟨t0.kind, t0.text, t0.num, k⟩) rfl rfl ?c1 ?c2 ?c3 ?c4 ?c5 ?_)
            case c1 => exact cells_of_new _ _ (by simp) (tkCells ⟨t0.kind, t0.text, t0.num, k⟩) 33
            case c2 => simp [tkCells, Value.oneCell']
            case c3 => unfold maxLen; omega
            case c4 => omega
            case c5 => have := hBW.size; rw [hWs] at this; simp; omega
            intro v' w5 hown5 hgrow _ _
            have hgrow' : (W.alloc (.cells (tkCells ⟨t0.kind, t0.text, t0.num, k⟩).toArray 33)).grownBy w5 u5.ownBlock := by rw [HW.out]; exact hgrow
            have hM5 := own_kept (hownW.alloc (.cells (tkCells ⟨t0.kind, t0.text, t0.num, k⟩).toArray 33)) hgrow' (hMW.alloc _) (by decide)
            have hS5 := own_kept (hownW.alloc (.cells (tkCells ⟨t0.kind, t0.text, t0.num, k⟩).toArray 33)) hgrow' (hSW.alloc _) (by decide)
            have hB5 := below_own (hBW.alloc hBW.size (.cells (tkCells ⟨t0.kind, t0.text, t0.num, k⟩).toArray 33)) (hownW.alloc _) hgrow'
            clear x1 y1 hgrow hgrow'
            have x5 := hS5.cell 1
            have y5 := hS5.free 1
            simp at x5
            have hlen : (acc ++ [(⟨t0.kind, t0.text, t0.num, k⟩ : Tk)]).length = acc.length + 1 := by simp
            have hown6 : w5.ownsRow w.heap.size 33 4 v' (acc ++ [(⟨t0.kind, t0.text, t0.num, k⟩ : Tk)]).length (flatT (acc ++ [⟨t0.kind, t0.text, t0.num, k⟩])) := by rw [hlen, ← flatT_app]; exact hown5
            go_wp2
            refine ⟨⟨k + n0, acc ++ [⟨t0.kind, t0.text, t0.num, k⟩], by omega, by rw [hlen]; omega, (show _ = _ by rw [HI.out, HQ.out, prep_prep]), own_put hown6 hS5 (by decide), hM5.far (by show ¬ w.heap.size = w.heap.size + 1; omega) _, (hS5.put 1 _).to (by simp), hB5.setCell (by simp) _⟩, ?_⟩
            rw [(hS5.put 1 _).cell 1, hS.cell 1]
            simp [intOf]
            omega
        · have HQ := Lib.hid (tk_end hbl (by omega))
          have hk' : ((k : Int) == (s.size : Int)) = true := by simp; omega
          clear hbl
          go_wp2
          first | rw [Exit.noGoto_ret] | skip
          exact bodyPost_ret (out10 ((hMa.put 0 _).put 1 _) rfl) rfl ⟨(hBa.setCell (Nat.le_refl _) _).setCell (Nat.le_refl _) _, by
            rw [HI.out, HQ.out]
            refine ⟨u5, rfl, ?_⟩
            simp only [List.append_nil]
            exact own_put (own_put (hown2.alloc _) hMa (by decide)) (hMa.put 0 _) (by decide)⟩
end Go.Proofs.YtndcbbhfhcjadaaDoor
