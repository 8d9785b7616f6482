/- The walk of sextantlaw19.StoreMany: it returns true, whatever the input. No conditions. -/
import Derived.Test.YtgacglmbhfppgaaKnown
namespace Go.Proofs.Ytgacglmbhfppgaa
open Go.RowKit

set_option maxHeartbeats 400000 in
theorem pick_any (c n : Int) (w : World) (hc : -9223372036854775808 ≤ c ∧ c ≤ 9223372036854775807) (hn : 0 < n ∧ n ≤ 100000) :
    Calls Try.prog 7 #[.int .i64 c, .int .i64 n] w fun e w' => ∃ p : Int, e = .returned (.int .i64 p) ∧ 0 ≤ p ∧ p < n ∧ w = w' := by
  have h0 : (n == 0) = false := by simp; omega
  by_cases h : c < 0
  · go_enter Try.func7, Try.ntmps7
    go_wp2
    go_ret
    refine ⟨_, rfl, ?_, ?_, rfl⟩
    · rw [← Int.neg_tmod, Int.tmod_eq_emod_of_nonneg (by omega)]; exact Int.emod_nonneg _ (by omega)
    · rw [← Int.neg_tmod, Int.tmod_eq_emod_of_nonneg (by omega)]; exact Int.emod_lt_of_pos _ hn.1
  · go_enter Try.func7, Try.ntmps7
    go_wp2
    go_ret
    refine ⟨_, rfl, ?_, ?_, rfl⟩
    · exact Int.emod_nonneg _ (by omega)
    · exact Int.emod_lt_of_pos _ hn.1

theorem owns_ne_owns {w : World} {base base' : Nat} {e t : TypeId} {size size' n n' g : Nat} {v v' : Value} {xs xs' : List Value} (h : w.ownsRow base e size v n xs) (h' : w.ownsRow base' t size' v' n' xs') (hne : e ≠ t) (hg : v.ownBlock = some g) (hg' : v'.ownBlock = some g) : False := by
  rcases h.2 with ⟨rfl, _⟩ | ⟨g1, cap, cur, rfl, _, hh, _⟩
  · simp [Value.ownBlock] at hg
  rcases h'.2 with ⟨rfl, _⟩ | ⟨g2, cap', cur', rfl, _, hh', _⟩
  · simp [Value.ownBlock] at hg'
  have e1 : g1 = g := by simpa [Value.ownBlock] using hg
  have e2 : g2 = g := by simpa [Value.ownBlock] using hg'
  subst e1; subst e2
  rw [hh] at hh'
  injection hh' with hh'
  injection hh' with _ ht
  exact hne ht

/-- Rows of other types than the store's lie apart from it. -/
theorem StoreAt.apart {w : World} {B S B' : Nat} {L : List ByteArray} {st rm : Int} {F : Nat → Prop} {e : TypeId} {size n : Nat} {v : Value} {xs : List Value} (h : StoreAt w B S L st rm F) (ho : w.ownsRow B' e size v n xs)
    (h1 : e ≠ 55) (h2 : e ≠ 3) (h3 : e ≠ 59) : ∀ g, v.ownBlock = some g → ¬ F g := by
  obtain ⟨a, cap, gh, es, hs, hS, hI, hL, hm, hF⟩ := h.ex
  intro g hg hFg
  rcases (hF g).1 hFg with rfl | rfl | ⟨g', rfl, rfl⟩
  · exact owns_ne_holds ho hS.box h1 hg
  · exact owns_ne_holds ho hS.heads h2 hg
  · exact owns_ne_owns ho hS.ents h3 hg rfl


theorem Try.info5 : (Try.prog.info? 5).map (fun i => (i.zero, i.size, i.bytes)) = some (some (.int .u8 0), 1, 1) := by kernel_rfl
theorem Try.info9 : (Try.prog.info? 9).map (fun i => (i.zero, i.size, i.bytes)) = some (some (.string ByteArray.empty), 1, 16) := by kernel_rfl

/-- What holds between two rounds of the first loop. -/
structure ManyRel (w wr : World) (S M W : Nat) (L : List ByteArray) (F : Nat → Prop) (lc : Option Addr) (cap : Nat) : Prop where
  size : ∀ s ∈ L, s.size = W
  store : StoreAt wr w.heap.size S L M 1073741824 F
  row : wr.ownsRow w.heap.size 9 1 (.slice lc L.length cap) L.length (L.map Value.string)
  below : Below w.heap.size w wr

theorem StoreAt.apart_holds {w : World} {B S : Nat} {L : List ByteArray} {st rm : Int} {F : Nat → Prop} {e : TypeId} {g : Nat} {cs : List Value} (h : StoreAt w B S L st rm F) (ho : Holds w g e cs)
    (h1 : e ≠ 55) (h2 : e ≠ 3) (h3 : e ≠ 59) : ¬ F g := by
  obtain ⟨a, cap, gh, es, hs, hS, hI, hL, hm, hF⟩ := h.ex
  intro hFg
  rcases (hF g).1 hFg with rfl | rfl | ⟨g', rfl, rfl⟩
  · exact hS.box.ne_of_type ho (Ne.symm h1) rfl
  · exact hS.heads.ne_of_type ho (Ne.symm h2) rfl
  · exact owns_ne_holds hS.ents ho (Ne.symm h3) rfl

theorem ManyRel.fr {w wr wx : World} {S M W : Nat} {L : List ByteArray} {F G : Nat → Prop} {lc : Option Addr} {cap : Nat} (h : ManyRel w wr S M W L F lc cap) (hf : Fr G wr wx) (h1 : ∀ k, F k → ¬ G k) (h2 : ∀ g, (Value.slice lc L.length cap).ownBlock = some g → ¬ G g) (h3 : ∀ k, k < w.heap.size → ¬ G k) :
    ManyRel w wx S M W L F lc cap :=
  ⟨h.size, h.store.fr hf h1, hf.owns h.row h2, h.below.trans (hf.to_below h.below.size h3)⟩

theorem ManyRel.far {w wr : World} {S M W : Nat} {L : List ByteArray} {F : Nat → Prop} {lc : Option Addr} {cap g : Nat} {cs : List Value} (h : ManyRel w wr S M W L F lc cap) (hg : Holds wr g 5 cs) (hb : w.heap.size ≤ g) (j : Nat) (u : Value) :
    ManyRel w (wr.setCell ⟨g, j, none⟩ u) S M W L F lc cap :=
  h.fr (G := fun k => k = g) ((Fr.refl (fun k => k = g) wr).setCell (p := ⟨g, j, none⟩) (fun _ => rfl) u) (fun k hk e => by subst e; exact h.store.apart_holds hg (by decide) (by decide) (by decide) hk)
    (fun k hk e => by subst e; exact owns_ne_holds h.row hg (by decide) hk) (fun k hk e => by omega)

theorem ManyRel.bel {w wr wx : World} {S M W : Nat} {L : List ByteArray} {F : Nat → Prop} {lc : Option Addr} {cap : Nat} (h : ManyRel w wr S M W L F lc cap) (hb : Below wr.heap.size wr wx) : ManyRel w wx S M W L F lc cap :=
  h.fr (G := fun _ => False) (Fr.of_below hb _) (fun _ _ => id) (fun _ _ => id) (fun _ _ => id)

theorem Holds.put_byte {w : World} {g : Nat} {xs : List Int} (h : Holds w g 5 (xs.map (Value.int .u8))) (j : Nat) (y : Int) : Holds (w.setCell ⟨g, j, none⟩ (.int .u8 y)) g 5 ((xs.set j y).map (Value.int .u8)) := by
  rw [List.map_set]; exact h.put j _

theorem total_of_size {L : List ByteArray} {W : Nat} (h : ∀ s ∈ L, s.size = W) : total L = L.length * W := by
  induction L with
  | nil => simp [total]
  | cons s L ih =>
    have h1 := h s (by simp)
    have h2 := ih (fun x hx => h x (by simp [hx]))
    simp only [total, List.map_cons, List.sum_cons, List.length_cons] at h2 ⊢
    rw [h1, h2, Nat.add_mul]
    omega

set_option maxRecDepth 100000 in
set_option maxHeartbeats 1000000 in
theorem many_any (n seed width : Int) (w : World) (hn : -9223372036854775808 ≤ n ∧ n ≤ 9223372036854775807) (hw : -9223372036854775808 ≤ width ∧ width ≤ 9223372036854775807) :
    Calls Try.prog 3 #[.int .i64 n, .int .u64 seed, .int .i64 width] w fun e w' => e = .returned (.bool true) ∧ Below w.heap.size w w' := by
  obtain ⟨i5, hi5, hz5, hs5, hb5⟩ := info_parts Try.info5
  obtain ⟨i9, hi9, hz9, hs9, hb9⟩ := info_parts Try.info9
  go_enter Try.func3, Try.ntmps3
  go_wp2_with fail
  refine (pick_any n 3000 _ hn (by omega)).mono ?_
  rintro e w' ⟨p, rfl, hp0, hp1, rfl⟩
  obtain ⟨p, rfl⟩ := Int.eq_ofNat_of_zero_le hp0
  go_wp2_with fail
  refine (pick_any width 4 _ hw (by omega)).mono ?_
  rintro e w' ⟨q, rfl, hq0, hq1, rfl⟩
  obtain ⟨q, rfl⟩ := Int.eq_ofNat_of_zero_le hq0
  go_wp2_with fail
  refine (new_at w w.heap.size (Nat.le_refl _) _ _ (by omega) (by omega)).mono ?_
  rintro e w1 ⟨S, F, rfl, hS, hb, hF⟩
  rw [show max (1 + (p : Int)) 0 = ((p + 1 : Nat) : Int) from by omega, show max (1073741824 : Int) 0 = 1073741824 from rfl] at hS
  go_wp2_with fail
  refine (known_any w1).mono ?_
  rintro e w2 ⟨rfl, hb2⟩
  have hS2 := hS.below hb2
  replace hb2 := hb.trans (hb2.mono hb.size)
  go_wp2_with fail
  go_loopw [10, 11, 12] (fun x l i wr => ∃ (k : Nat) (z : Int) (L : List ByteArray) (F : Nat → Prop) (lc : Option Addr) (cap : Nat), i = .int .i64 k ∧ k ≤ p + 1 ∧ x = .int .u64 z ∧ l = .slice lc L.length cap ∧ L.length ≤ k ∧ ManyRel w wr S (p + 1) (q + 1) L F lc cap) (fun _ _ i _ => p + 1 - (intOf i).toNat)
  case atStart => exact ⟨0, seed, [], F, none, 0, rfl, by omega, rfl, rfl, by simp, by simp, hS2, World.ownsRow_nil _ _ _ _, hb2⟩
  case round =>
    obtain ⟨k, z, L, F, lc, cap, rfl, hk, rfl, rfl, hL, hR⟩ := hrel
    by_cases hlt : k < p + 1
    case pos =>
      have hB0 := hR.below.size
      go_wp2_with (at_make; refine wpList_make_full _ rfl (.tmp 51) (.tmp 51) 28 rfl w.heap.size 5 i5 (.int .u8 0) 1 Try.underlying28 hi5 hz5 hs5 .i64 .i64 _ _ (q + 1) rfl rfl (by omega) (by omega) ?b1 ?b2 ?b3 ?_)
      case b1 => rw [hb5]; omega
      case b2 => unfold maxLen; omega
      case b3 => exact hB0
      intro w3 hown3 hgrow3
      have hS3 : StoreAt w3 w.heap.size S L ((p + 1 : Nat) : Int) 1073741824 F := hR.store.fr (G := fun _ => False) ((Fr.refl _ _).grown hgrow3 (by simp)) fun _ _ => id
      have hr3 := hR.row.kept hgrow3 (by cases hv : (Value.slice lc L.length cap).ownBlock <;> simp)
      have hb3 := hR.below.grown hgrow3 hB0 (by simp)
      have hH3 := holds_of_full hown3
      rw [toList_madeCells_one, show List.replicate (q + 1) (Value.int .u8 0) = (List.replicate (q + 1) 0).map (Value.int .u8) from by simp] at hH3
      generalize hgb : wr.heap.size = gb at *
      clear hgb hown3 hgrow3
      go_wp2_with fail
      go_loopw [14] (fun i wx => ∃ (j : Nat) (xs : List Int), i = .int .i64 j ∧ j ≤ q + 1 ∧ Hid (xs.length = q + 1) ∧ Holds wx gb 5 (xs.map (Value.int .u8)) ∧ ManyRel w wx S (p + 1) (q + 1) L F lc cap) (fun i _ => q + 1 - (intOf i).toNat)
      case atStart => exact ⟨0, List.replicate (q + 1) 0, rfl, by omega, List.length_replicate, hH3, hR.size, hS3, hr3, hb3⟩
      case round =>
        obtain ⟨j, xs, rfl, hj, HX, hHx, hRx⟩ := hrel
        by_cases hlj : j < q + 1
        case pos =>
          have hc := hHx.cell j
          have hf := hHx.free j
          rw [List.getElem?_map, List.getElem?_eq_getElem (by rw [HX.out]; exact hlj)] at hc
          simp only [Option.map_some] at hc
          go_wp2
          go_roundw
          case rel => exact ⟨j + 1, xs.set j _, by go_num, by omega, by show List.length _ = _; rw [List.length_set]; exact HX.out, hHx.put_byte j _, hRx.far hHx hB0 j _⟩
          case measure => simp [intOf]; omega
        case neg =>
          have hcv := run_convert_bytes_arg (P := Try.prog) wr 28 5 Try.underlying28 Try.underlying5 gb 0 (q + 1) (q + 1) xs HX.out (fun i hi => by
            rw [Nat.zero_add, hHx.cell i, List.getElem?_map, List.getElem?_eq_getElem (by rw [HX.out]; exact hi), List.getD_eq_getElem?_getD, List.getElem?_eq_getElem (by rw [HX.out]; exact hi)]
            rfl) 9 Try.underlying9
          have hss : (strOfNums xs).size = q + 1 := by rw [strOfNums_size]; exact HX.out
          generalize strOfNums xs = s at *
          have HS := Lib.hid hss
          have hsz : s.size ≤ maxLen := by rw [hss]; unfold maxLen; omega
          clear hss hS hS2 hS3 hr3 hR
          go_wp2_with fail
          clear hcv
          have hl : L.length ≤ 1000000 := by omega
          have hl2 := hRx.store.st0
          by_cases hmem : s ∈ L
          case pos =>
            obtain ⟨i, hi, he⟩ := List.getElem_of_mem hmem
            clear hmem
            have HE := Lib.hid he
            clear he
            refine (find_old_at hRx.store hl s hsz i hi HE.out).mono ?_
            rintro e w4 ⟨rfl, hb4⟩
            have hR4 := hRx.bel hb4
            go_wp2_with fail
            refine (put_old_at hR4.store hl s hsz i hi HE.out).mono ?_
            rintro e w5 ⟨rfl, hb5⟩
            have hR5 := hR4.bel hb5
            go_wp2
            go_roundw
            case rel => exact ⟨k + 1, _, L, F, lc, cap, by go_num, by omega, rfl, rfl, by omega, hR5⟩
            case measure => simp [intOf]; omega
          case neg =>
            have HN := Lib.hid hmem
            clear hmem
            refine (find_none_at hRx.store hl s hsz HN.out).mono ?_
            rintro e w4 ⟨rfl, hb4⟩
            have hR4 := hRx.bel hb4
            go_wp2_with fail
            refine (put_new_at hR4.store hl s hsz HN.out (by omega) (by rw [HS.out, total_of_size hR4.size]; have := Nat.mul_le_mul (show L.length ≤ 3000 by omega) (show q + 1 ≤ 4 by omega); omega)).mono ?_
            rintro e w5 ⟨rfl, F5, hS5, hF5, hG5⟩
            have hr5 := hF5.owns hR4.row (hR4.store.apart hR4.row (by decide) (by decide) (by decide))
            have hw5 := (hR4.below.trans (hR4.store.put_below hR4.below.size hF5))
            go_wp2_with (at_builtin; refine wpList_append_own_at _ rfl (.tmp 107) (.tmp 109) _ rfl w.heap.size 9 i9 _ 1 16 Try.underlying27 hi9 hz9 hs9 hb9 rfl (by omega) (.slice lc L.length cap) L.length (L.map Value.string) rfl (hr5.alloc _) ⟨w5.heap.size, 0, none⟩ 1 1 [.string s] rfl rfl ?c1 ?c2 ?c3 ?c4 ?c5 ?_)
            case c1 => exact cell_one_new _ _ _
            case c2 => simp [Value.oneCell']
            case c3 => unfold maxLen; omega
            case c4 => omega
            case c5 => have := hw5.size; simp; omega
            intro v' w7 hown7 hgrow7 _ _
            obtain ⟨g', cap', rfl⟩ := ownsRow_succ hown7
            have HR : Hid (ManyRel w w7 S (p + 1) (q + 1) (L ++ [s]) F5 (some ⟨g', 0, none⟩) cap') := by
              refine ⟨fun x hx => ?_, ?_, ?_, ?_⟩
              · rcases List.mem_append.1 hx with h | h
                · exact hRx.size x h
                · simp at h; subst h; exact HS.out
              · exact (hS5.alloc _).fr (G := fun k => (Value.slice lc L.length cap).ownBlock = some k) ((Fr.refl _ _).grown hgrow7 fun k hk _ => hk) fun k hk e => hS5.apart hr5 (by decide) (by decide) (by decide) k e hk
              · rw [List.length_append, List.map_append]; exact hown7
              · exact (hw5.alloc hw5.size _).grown hgrow7 (by have := hw5.size; simp; omega) fun k hk => (hr5.lt k hk).1
            go_wp2
            go_roundw
            case rel => exact ⟨k + 1, _, L ++ [s], F5, some ⟨g', 0, none⟩, cap', by go_num, by omega, rfl, by rw [List.length_append]; rfl, by rw [List.length_append]; simp; omega, HR.out⟩
            case measure => simp [intOf]; omega
    case neg =>
      clear hS hS2
      go_wp2_with fail
      refine (len_at hR.store).mono ?_
      rintro e wx ⟨rfl, rfl⟩
      go_wp2_with fail
      refine (bytes_at hR.store).mono ?_
      rintro e wx ⟨rfl, rfl⟩
      have ht : (total L : Int) = (1 + (q : Int)) * (L.length : Int) := by
        rw [total_of_size hR.size, Int.natCast_mul, Int.mul_comm]
        congr 1
        omega
      rw [ht]
      have hm1 : 0 ≤ (1 + (q : Int)) * (L.length : Int) := Int.mul_nonneg (by omega) (by omega)
      have hm2 : (1 + (q : Int)) * (L.length : Int) ≤ 12000 := by
        rw [← ht, total_of_size hR.size]
        have := Nat.mul_le_mul (show L.length ≤ 3000 by omega) (show q + 1 ≤ 4 by omega)
        omega
      clear ht
      go_wp2_with fail
      go_loopw [21] (fun i wx => ∃ k : Nat, i = .int .i64 k ∧ k ≤ L.length ∧ ManyRel w wx S (p + 1) (q + 1) L F lc cap) (fun i _ => L.length - (intOf i).toNat)
      case atStart => exact ⟨0, rfl, Nat.zero_le _, hR⟩
      case round =>
        obtain ⟨j, rfl, hj, hRx⟩ := hrel
        by_cases hlj : j < L.length
        case pos =>
          have hl : L.length ≤ 1000000 := by omega
          obtain ⟨g, rfl, _, hg, hgc, _, hcell, _⟩ := owns_head hRx.row (by omega)
          have hc := hcell j (by omega)
          rw [List.getElem?_map, List.getElem?_eq_getElem hlj] at hc
          simp only [Option.map_some] at hc
          have HZ : Hid (L[j].size = q + 1) := hRx.size _ (List.getElem_mem hlj)
          have hsz : L[j].size ≤ maxLen := by rw [HZ.out]; unfold maxLen; omega
          have hz4 : L[j].size ≤ 4 := by rw [HZ.out]; omega
          clear hcell
          go_wp2_with fail
          refine (find_old_at hRx.store hl _ hsz j hlj rfl).mono ?_
          rintro e w4 ⟨rfl, hb4⟩
          have hR4 := hRx.bel hb4
          go_wp2_with fail
          refine (get_in_at hR4.store hl j hlj).mono ?_
          rintro e w5 ⟨rfl, hb5⟩
          have hR5 := hR4.bel hb5
          have hc5 := (hb5.cell (p := ⟨g, j, none⟩) (Nat.lt_of_lt_of_le hg hb4.size)).trans ((hb4.cell (p := ⟨g, j, none⟩) hg).trans hc)
          have hc6 := fun w6 (hb6 : Below w5.heap.size w5 w6) => (hb6.cell (p := ⟨g, j, none⟩) (Nat.lt_of_lt_of_le (Nat.lt_of_lt_of_le hg hb4.size) hb5.size)).trans hc5
          have HX := Lib.hid hc6
          clear hc6
          go_wp2_with fail
          refine (find_none_at hR5.store hl _ (by rw [ByteArray.size_append]; unfold maxLen; show _ + 1 ≤ _; omega) ?no).mono ?_
          case no =>
            intro hm
            have h1 := hRx.size _ hm
            rw [ByteArray.size_append, HZ.out] at h1
            have h2 : (⟨#[120]⟩ : ByteArray).size = 1 := rfl
            omega
          rintro e w6 ⟨rfl, hb6⟩
          have hR6 := hR5.bel hb6
          have hc7 := HX.out w6 hb6
          go_wp2
          go_roundw
          case rel => exact ⟨j + 1, by go_num, by omega, hR6⟩
          case measure => simp [intOf]; omega
        case neg =>
          go_wp2_with fail
          refine (known_any _).mono ?_
          rintro e w4 ⟨rfl, hb4⟩
          have hR4 := hRx.bel hb4
          go_wp2
          go_ret
          exact ⟨rfl, hR4.below⟩
end Go.Proofs.Ytgacglmbhfppgaa
