/- The walk of sextantlaw19.StoreGoes: it returns true, whatever the input. -/
import Derived.Test.YtgacglmbhfppgaaGoesM
import Derived.Test.YtgacglmbhfppgaaRef
import Derived.Deep.RegionHeld3
import Derived.StillTailTactics
namespace Go.Proofs.Ytgacglmbhfppgaa
open Go.RowKit Go.Shelf
attribute [local go_sem] Oper.semAt_some

set_option maxRecDepth 100000 in
set_option maxHeartbeats 1000000 in
theorem goes_stops (n Bs B S : Nat) (L : List ByteArray) (ex M : Nat) (I : List (Nat × ByteArray) → World → Prop) (w : World) (hM : ∀ k, (goesL L ex k).length ≤ M) (hM2 : M ≤ 1000000)
    (hI : ∀ pre W, I pre W → ∃ F, StoreAt W B S (goesL L ex pre.length) 1000 1073741824 F) (hbox : Holds w Bs 24 [.pointer (some ⟨S, 0, none⟩)]) :
    SeqKnows Fence.wide n Try.prog 25 #[.pointer (some ⟨Bs, 0, none⟩)] encs (KpBox 0 Bs S) I (fun ys => GoodG L ex ys ∧ (goesL L ex ys.length).length ≤ ys.length) (fun pre => GoodG L ex pre) (M + 1) w := fun l J Jx W hW _ _ hJI hY h0 => by
  have hb0 := hbox.of_eq (hW.block _ hbox.lt)
  refine callsIn_of_wp Try.func25 rfl trivial ?_ rfl
  simp only [Try.ntmps25, List.size_toArray, List.length_cons, List.length_nil, Nat.reduceAdd, Nat.reduceSub, Array.replicate_succ, Array.replicate_zero, List.push_toArray, List.append_toArray, List.nil_append, List.cons_append]
  gi_wp2
  gi_loopw [3] (fun i wr => ∃ k : Nat, k ≤ M ∧ i = .int .i64 k ∧ J (enumG L ex k) wr ∧ Hid (∀ j, j < k → j < (goesL L ex j).length) ∧ Holds wr Bs 24 [.pointer (some ⟨S, 0, none⟩)]) (fun i _ => M + 1 - (intOf i).toNat)
  case atStart => exact ⟨0, Nat.zero_le _, rfl, h0, fun j hj => by omega, hb0⟩
  case round =>
    obtain ⟨k, hk, rfl, hJ, HJ, hbr⟩ := hrel
    have c0 := box_cell hbr
    obtain ⟨F, hSr⟩ := hI _ _ (hJI _ _ hJ)
    rw [enumG_length] at hSr
    have hMk := hM k
    obtain ⟨Lk, hLk⟩ : ∃ Lk, goesL L ex k = Lk := ⟨_, rfl⟩
    rw [hLk] at hSr hMk
    have HLk := Lib.hid hLk
    clear hLk hM
    gi_wp2_with fail
    refine ⟨trivial, no_depth, ?_⟩
    refine (callsIn_wide.2 (len_at hSr)).mono ?_
    rintro e w' ⟨rfl, rfl⟩
    by_cases hlt : k < Lk.length
    · obtain ⟨a, cap, gh, es, hs, hSI, _, hL, hm, hFF⟩ := hSr.ex
      have hke : k < es.length := by have := congrArg List.length hL; simp at this; omega
      have d0 := hSI.box.cell 0
      simp at d0
      obtain ⟨g, rfl, _, hg, hc, e0, _, _, _⟩ := ent_cells hSI.ents hke
      have HG : Hid ((goesL L ex k).getD k ByteArray.empty = es[k].1) := by show _ = _; rw [HLk.out, ← hL]; simp [hke]
      obtain ⟨fn, tmps, assign, body, hy, hR⟩ := hY (enumG L ex k) (k, (goesL L ex k).getD k ByteArray.empty) wr hJ (by rw [enumG_length]; omega)
      dsimp only [encs] at hy
      rw [HG.out] at hy
      have hll : es.length ≤ 1000000 := by have := congrArg List.length hL; simp at this; omega
      clear hL hFF
      gi_wp2_with fail
      refine ⟨no_depth, ?_⟩
      refine hR.mono ?_
      have HN : Hid (∀ j, j < k + 1 → j < (goesL L ex j).length) := fun j hj => by
        by_cases e : j = k
        · subst e; rw [HLk.out]; exact hlt
        · exact HJ.out j (by omega)
      rintro e W3 (⟨rfl, hJ3, hk3, hk4⟩ | ⟨rfl, hJx3⟩)
      · gi_wp2
        go_roundw
        case rel => exact ⟨k + 1, by omega, by go_num, by rw [enumG_succ]; exact hJ3, HN, hk4 hbr⟩
        case measure => simp [intOf]; omega
      · gi_wp2
        refine bodyPost_ret (results_none rfl _ _ _) rfl ?_
        exact ⟨⟨_, rfl⟩, .inr ⟨_, by rw [← enumG_succ]; exact goodG_enum HN.out, hJx3⟩⟩
    · gi_wp2
      go_end0
      exact ⟨⟨_, rfl⟩, .inl ⟨_, ⟨goodG_enum HJ.out, by rw [enumG_length, HLk.out]; omega⟩, hJ⟩⟩

theorem moreS_size (k : Nat) : (moreS k).size = 21 := by unfold moreS; rw [ByteArray.size_append, strOfNums_size]; rfl
theorem moreS_eq (k : Nat) : moreS (k + 1) = (⟨#[109, 111, 114, 101, 32, 116, 104, 97, 110, 32, 116, 104, 101, 114, 101, 32, 105, 115, 58, 32]⟩ : ByteArray) ++ strOfNums [(k : Int) + 1] := rfl

theorem goesL_mono (L : List ByteArray) (ex k : Nat) : (goesL L ex k).length ≤ (goesL L ex (k + 1)).length := by
  rw [show goesL L ex (k + 1) = if k + 1 ≤ ex then putL (goesL L ex k) 1000 1073741824 (moreS (k + 1)) else goesL L ex k from rfl]
  split
  · exact (putL_length _ _ _ _).1
  · exact Nat.le_refl _
theorem goodG_le {L : List ByteArray} {ex : Nat} {xs : List (Nat × ByteArray)} (h : GoodG L ex xs) : xs.length ≤ (goesL L ex xs.length).length := by
  rcases Nat.eq_zero_or_pos xs.length with h0 | h0
  · omega
  · have h1 := h.2 (xs.length - 1) (by omega)
    have h2 := goesL_mono L ex (xs.length - 1)
    rw [show xs.length - 1 + 1 = xs.length from by omega] at h2
    omega

theorem still_of {P : Program} {f : FuncId} {args : Array Value} {w : World} {v : Value} (h : Calls P f args w fun e w' => e = .returned v ∧ w = w') : Calls P f args w fun e w' => e = .returned v ∧ w' = w := h.mono fun _ _ ⟨a, b⟩ => ⟨a, b.symm⟩
theorem bump_below (W : World) : Below W.heap.size W ({ heap := W.heap, tape := W.tape, drawn := W.drawn + 1, os := W.os, output := W.output } : World) := ⟨rfl, rfl, rfl, Nat.le_refl _, fun _ _ => rfl⟩

/-- The list of states, as it lies in memory. -/
def Strs (w : World) (a : Option Addr) (n : Nat) : Prop :=
  n ≤ maxLen ∧ ∀ i, i < n → ∃ (b off : Nat) (s : ByteArray), a = some ⟨b, off, none⟩ ∧ b < w.heap.size ∧ w.cell? ⟨b, off + i, none⟩ = some (.string s) ∧ s.size ≤ maxLen

set_option maxRecDepth 100000 in
set_option maxHeartbeats 4000000 in
theorem goes_any (sa : Option Addr) (n scap : Nat) (more : Int) (w : World) (hmore : -9223372036854775808 ≤ more ∧ more ≤ 9223372036854775807) (hsc : Strs w sa n) :
    Calls Try.prog 5 #[.slice sa n scap, .int .i64 more] w fun e w' => e = .returned (.bool true) ∧ Below w.heap.size w w' := by
  have hnn := hsc.1
  unfold maxLen at hnn
  have hmix : Try.prog.follows Departure.mixedOrders = true := by kernel_rfl
  refine (callsIn_wide (n := 5)).1 ?_
  refine callsIn_of_wp_marks Try.func5 rfl trivial ?_ rfl
  simp only [Try.ntmps5, List.size_toArray, List.length_cons, List.length_nil, Nat.reduceAdd, Nat.reduceSub, Array.replicate_succ, Array.replicate_zero, List.push_toArray, List.append_toArray, List.nil_append, List.cons_append]
  gi_wp2_with fail
  refine ⟨trivial, ?_⟩
  refine (callsIn_wide.2 (new_at (w.alloc (.cells #[.bool false] 4)) w.heap.size (by simp) 1000 1073741824 (by omega) (by omega))).mono ?_
  rintro e w1 ⟨S, F, rfl, hS, hb, hF⟩
  rw [show max (1000 : Int) 0 = 1000 from rfl, show max (1073741824 : Int) 0 = 1073741824 from rfl] at hS
  have hr1 : Holds w1 w.heap.size 4 [.bool false] := (Holds.new w 4 #[.bool false]).of_eq (hb.block _ (by simp))
  have hB1 : Below w.heap.size w w1 := ((Below.refl _ w).alloc (Nat.le_refl _) _).trans (hb.mono (by simp))
  have hsz1 : w.heap.size < w1.heap.size := hr1.lt
  clear hb hF
  have ht2 := Holds.new w1 24 #[.pointer (some ⟨S, 0, none⟩)]
  gi_wp2_with fail
  refine ⟨trivial, ?_⟩
  refine (callsIn_wide.2 (known_any _)).mono ?_
  rintro e w3 ⟨rfl, hb3⟩
  have hS3 := (hS.alloc _).below hb3
  have hr3 := (hr1.alloc _).of_eq (hb3.block _ (hr1.alloc _).lt)
  have ht3 := ht2.of_eq (hb3.block _ ht2.lt)
  have hB3 := (hB1.alloc hB1.size _).trans (hb3.mono (by simp; omega))
  obtain ⟨b5, hb5⟩ : ∃ b5, w1.heap.size = b5 := ⟨_, rfl⟩
  rw [hb5] at ht3 hsz1 ⊢
  clear hS hr1 hB1 ht2 hb3 hb5
  gi_wp2_with fail
  gi_loopw [6] (fun i wr => ∃ (k : Nat) (L : List ByteArray) (F : Nat → Prop), i = .int .i64 k ∧ k ≤ n ∧ k ≤ 100 ∧ L.length ≤ k ∧ StoreAt wr w.heap.size S L 1000 1073741824 F ∧ Holds wr w.heap.size 4 [.bool false] ∧ Holds wr b5 24 [.pointer (some ⟨S, 0, none⟩)] ∧ Below w.heap.size w wr) (fun i _ => 101 - (intOf i).toNat)
  case atStart => exact ⟨0, [], F, rfl, by omega, by omega, by simp, hS3, hr3, ht3, hB3⟩
  case round =>
    obtain ⟨k, L, F, rfl, hkn, hk1, hL, hSr, hrr, htr, hBr⟩ := hrel
    clear hS3 hr3 ht3 hB3
    by_cases hlt : k < n ∧ k < 100
    case pos =>
      obtain ⟨hlt, hlt1⟩ := hlt
      obtain ⟨b, off, s, rfl, hbw, e0, hsz⟩ := hsc.2 k hlt
      have f0 := (hBr.cell (p := ⟨b, off + k, none⟩) hbw).trans e0
      have ct := box_cell htr
      clear e0
      gi_wp2_with fail
      refine wpIn_mono ?_ NoPanic.imp
      gi_region_with_o (refine ⟨trivial, ?_⟩; gi_at_call 11; refine (callsIn_wide.2 (put_any_at (hSr.drewN 1) (by omega) s hsz)).mono ?_; rintro e w4 ⟨⟨v, rfl⟩, hput⟩)
      all_goals
        refine NoPanic.normal ?_
        obtain ⟨F4, hS4, hF4, hG4⟩ := hput
        have hp4 := putL_length L 1000 1073741824 s
        have hr4 := hF4.holds (show Holds (wr.drewN 1) w.heap.size 4 [.bool false] from hrr) (hSr.apart_holds hrr (by decide) (by decide) (by decide))
        have ht4 := hF4.holds (show Holds (wr.drewN 1) b5 24 [.pointer (some ⟨S, 0, none⟩)] from htr) (hSr.apart_holds htr (by decide) (by decide) (by decide))
        have hB4 := (below_drewN hBr 1).trans ((hSr.drewN 1).put_below (below_drewN hBr 1).size hF4)
        gi_wp2
        go_roundw
        case rel => exact ⟨k + 1, _, F4, by go_num, by omega, by omega, by omega, hS4, hr4, ht4, hB4⟩
        case measure => simp [intOf]; omega
    case neg =>
      have hor : k = n ∨ (k < n ∧ k = 100) := by omega
      have hLl : L.length ≤ 100 := by omega
      rcases hor with rfl | ⟨hkn2, rfl⟩
      all_goals
        clear hlt hL
        have ct := box_cell htr
        gi_wp2_with fail
        refine ⟨trivial, ?_⟩
        refine (callsIn_wide.2 (pick_any more 50 _ hmore (by omega))).mono ?_
        rintro e wp ⟨px, rfl, hp0, hp5, rfl⟩
        obtain ⟨ex, rfl⟩ := Int.eq_ofNat_of_zero_le hp0
        have hlw := htr.lt
        gi_wp2_with fail
        have hS5 := (hSr.alloc (.cells #[.int .i64 (ex : Int)] 3)).alloc (.cells #[.int .i64 0] 3)
        have hG5 : GoesAt w ((wr.alloc (.cells #[.int .i64 (ex : Int)] 3)).alloc (.cells #[.int .i64 0] 3)) w.heap.size b5 wr.heap.size (wr.heap.size + 1) S L false ex 0 := by
          have h7 := Holds.new wr 3 #[.int .i64 (ex : Int)]
          have h8 := Holds.new (wr.alloc (.cells #[.int .i64 (ex : Int)] 3)) 3 #[.int .i64 0]
          rw [World.size_alloc] at h8
          exact ⟨⟨F, hS5, fun h => by have := (hSr.lt _ h).2; omega, fun h => by have := (hSr.lt _ h).2; omega⟩, (hrr.alloc _).alloc _, (htr.alloc _).alloc _, h7.alloc _, h8, (hBr.alloc hBr.size _).alloc (by have := hBr.size; simp; omega) _⟩
        have hsz5 : ((wr.alloc (.cells #[.int .i64 (ex : Int)] 3)).alloc (.cells #[.int .i64 0] 3)).heap.size = wr.heap.size + 2 := by simp
        generalize ((wr.alloc (.cells #[.int .i64 (ex : Int)] 3)).alloc (.cells #[.int .i64 0] 3)) = W5 at *
        generalize hb7 : wr.heap.size = b7 at *
        have hb7w : w.heap.size ≤ b7 := by have := hBr.size; omega
        clear hb7 hSr hrr htr hBr ct
        have ct := box_cell hG5.t
        refine ⟨trivial, ?_⟩
        refine (callsIn_wide.2 (len_at hS5)).mono ?_
        rintro e wp ⟨rfl, rfl⟩
        gi_wp2_with fail
        refine ⟨trivial, ?_⟩
        refine (callsIn_wide.2 (all_fn _ _)).mono ?_
        rintro e wp ⟨rfl, rfl⟩
        have hG6 := hG5.bel ((Below.refl _ W5).alloc (Nat.le_refl _) (.cells #[.pointer (some ⟨S, 0, none⟩)] 24))
        have hbs := Holds.new W5 24 #[.pointer (some ⟨S, 0, none⟩)]
        have hsz6 : (W5.alloc (.cells #[.pointer (some ⟨S, 0, none⟩)] 24)).heap.size = b7 + 3 := by simp; omega
        rw [hsz5] at hbs ⊢
        generalize (W5.alloc (.cells #[.pointer (some ⟨S, 0, none⟩)] 24)) = W6 at *
        clear hS5 hG5 ct hsz5
        gi_wp2_with fail
        refine wpIn_rangeFunc_knows rfl (by omega) (gf := 25) (lb := #[.pointer (some ⟨b7 + 2, 0, none⟩)]) rfl trivial (enters_of Try.func25 (by kernel_rfl) rfl) (encs := encs) (Kp := KpBox 0 (b7 + 2) S) (w0 := W6) KpBox.trans (KpBox.book (Nat.zero_le _)) (Below.refl _ _) (fun _ => rfl)
          (fun pre W => GoodG L ex pre ∧ GoesAt w W w.heap.size b5 b7 (b7 + 1) S (goesL L ex pre.length) false ex pre.length)
          (goes_stops 4 (b7 + 2) w.heap.size S L ex (L.length + ex) _ W6 (fun k => by have := goesL_length L ex k; omega) (by omega) (fun pre W h => by obtain ⟨F, hF, _⟩ := h.2.store; exact ⟨F, hF⟩) hbs)
          (fun c pre W => (c = .ret ∧ ¬ GoodG L ex pre) ∧ True)
          (OwnFrom.and (fun s A B row hs _ _ => hs) (GoesAt.own (by omega) _ _)) (fun c s A B row hs _ _ => hs)
          ⟨⟨rfl, fun j hj => by simp at hj⟩, hG6⟩ (fun x a' W => ∃ (t0 t6 t21 t22 t23 t24 t25 t26 t27 t28 t29 t30 t31 t32 t33 t34 t35 t36 : Value), a' = { tmps := #[t0, .int .i64 more, undef, undef, .pointer (some ⟨w.heap.size, 0, none⟩), .pointer (some ⟨b5, 0, none⟩), t6, .pointer (some ⟨b7, 0, none⟩), .pointer (some ⟨b7 + 1, 0, none⟩), .int .i64 (L.length : Int), .int .i64 (x.1 : Int), .string x.2, undef, undef, .pointer (some ⟨S, 0, none⟩), .pointer (some ⟨S, 0, none⟩), .bool false, .bool false, .bool true, .bool false, .bool false, t21, t22, t23, t24, t25, t26, t27, t28, t29, t30, t31, t32, t33, t34, t35, t36, .int .i64 more, .int .i64 (ex : Int), .pointer (some ⟨S, 0, none⟩), .int .i64 (L.length : Int), .pointer (some ⟨S, 0, none⟩), .func (.func 25) #[] #[.pointer (some ⟨b7 + 2, 0, none⟩)], .int .i64 (x.1 : Int), .string x.2, undef, undef, undef, undef, undef, undef, undef, undef, undef, undef, undef, undef, undef, undef, undef, undef, undef, undef, undef, undef, undef, undef, undef, undef, undef, undef, undef, undef, undef, undef, undef, undef, undef, undef, undef, undef, undef, undef, undef, undef, undef, undef, undef, undef, undef, undef], defers := [] }) (fun x a' s A B row hs _ _ => hs) ?assign ?body ?done ?stop
        case assign =>
          intro l pre x W' K hi hK
          dsimp only [encs]
          gi_wp2
          exact hK _ _ (KeepsFrom.refl _ _) (KpBox.refl _ _ _ _) hi ⟨_, _, _, _, _, _, _, _, _, _, _, _, _, _, _, _, _, _, rfl⟩
        case body =>
          rintro l pre x a' W hlt2 hrec ⟨hgp, hG⟩ ⟨t0, t6, t21, t22, t23, t24, t25, t26, t27, t28, t29, t30, t31, t32, t33, t34, t35, t36, rfl⟩ hlen
          have hl : (goesL L ex pre.length).length ≤ 1000000 := by have := goesL_length L ex pre.length; omega
          have HS : ∀ y, Hid (GoodG L ex (pre ++ [y]) ↔ GoodG L ex pre ∧ y = (pre.length, (goesL L ex pre.length).getD pre.length ByteArray.empty) ∧ pre.length < (goesL L ex pre.length).length) := fun y => goodG_snoc
          have HT : Hid (goesL L ex (pre.length + 1) = if pre.length + 1 ≤ ex then putL (goesL L ex pre.length) 1000 1073741824 (moreS (pre.length + 1)) else goesL L ex pre.length) := rfl
          have HLe : ∀ y : Nat × ByteArray, Hid ((pre ++ [y]).length = pre.length + 1) := fun y => List.length_append
          obtain ⟨y1, y2⟩ := x
          have HSx := HS (y1, y2)
          have HLx := HLe (y1, y2)
          clear HS HLe
          generalize goesL L ex pre.length = Lj at *
          generalize hjj : pre.length = j at *
          clear hjj
          obtain ⟨F', hSj, h7, h8⟩ := hG.store
          have c5 := box_cell hG.t
          by_cases hin : y1 < Lj.length
          case pos =>
            have HC := Lib.hid (get_in_at hSj hl y1 hin)
            by_cases hx1 : y1 = j
            case pos =>
              subst hx1
              have HD : Hid (Lj.getD y1 ByteArray.empty = Lj[y1]) := by show _ = _; rw [List.getD_eq_getElem?_getD, List.getElem?_eq_getElem hin]; rfl
              by_cases hx2 : y2 = Lj[y1]
              case pos =>
                have HA : Hid (GoodG L ex (pre ++ [(y1, y2)])) := HSx.out.2 ⟨hgp, by rw [HD.out, hx2], hin⟩
                subst hx2
                gi_wp2_with fail
                refine ⟨trivial, ?_⟩
                refine (CallsIn.inRound l (callsIn_wide.2 HC.out)).mono ?_
                rintro e w4 ⟨rfl, hb4⟩
                have hG4 := hG.bel hb4
                have c8 := box_cell hG4.k
                have c7 := box_cell hG4.ex
                have z8 := hG4.k.free 0
                have ct := box_cell hG4.t
                have hG5 := hG4.step (by omega) (by omega) ((y1 : Int) + 1)
                have hS4 := hSj.below hb4
                have hcv := conv_one (w4.setCell ⟨b7 + 1, 0, none⟩ (.int .i64 ((y1 : Int) + 1))) ((y1 : Int) + 1) w4.heap.size (by simp [World.setCell])
                by_cases hle : y1 + 1 ≤ ex
                case pos =>
                  have HQ : Hid (goesL L ex (y1 + 1) = putL Lj 1000 1073741824 (moreS (y1 + 1))) := by show _ = _; rw [HT.out, if_pos hle]
                  have hGa := hG5.bel ((Below.refl _ _).alloc (Nat.le_refl _) (.cells #[.int .u8 ((y1 : Int) + 1)] 5))
                  obtain ⟨F5, hS5, h75, h85⟩ := hGa.store
                  have hcp := put_any_at hS5 hl (moreS (y1 + 1)) (by rw [moreS_size]; unfold maxLen; omega)
                  rw [moreS_eq] at hcp HQ
                  have HC5 := Lib.hid hcp
                  have hss : (strOfNums [(y1 : Int) + 1]).size ≤ 1 := by rw [strOfNums_size]; exact Nat.le_refl _
                  clear hcp
                  gi_wp2_with fail
                  refine ⟨trivial, ?_⟩
                  refine (CallsIn.inRound l (callsIn_wide.2 HC5.out)).mono ?_
                  rintro e w5 ⟨⟨v, rfl⟩, hput⟩
                  have hGb := hGa.put hS5 h75 h85 hput
                  obtain ⟨F6, hS6, hFr6, _⟩ := hput
                  gi_wp2
                  have hlv := (((Leaves.below hb4).trans (Leaves.set (B := W6.heap.size) (Bs := b7 + 2) (S := S) w4 (p := ⟨b7 + 1, 0, none⟩) (by intro e; have : b7 + 2 = b7 + 1 := e; omega) (.int .i64 ((y1 : Int) + 1)))).trans (Leaves.below ((Below.refl _ _).alloc (Nat.le_refl _) (.cells #[.int .u8 ((y1 : Int) + 1)] 5)))).trans (Leaves.put hS5 hFr6)
                  refine ⟨hlv.1, hlv.2, HA.out, ?_⟩
                  rw [HLx.out, HQ.out, Int.natCast_add]
                  exact hGb
                case neg =>
                  have HQ : Hid (goesL L ex (y1 + 1) = Lj) := by show _ = _; rw [HT.out, if_neg hle]
                  gi_wp2
                  have hlv := (Leaves.below hb4).trans (Leaves.set (B := W6.heap.size) (Bs := b7 + 2) (S := S) w4 (p := ⟨b7 + 1, 0, none⟩) (by intro e; have : b7 + 2 = b7 + 1 := e; omega) (.int .i64 ((y1 : Int) + 1)))
                  refine ⟨hlv.1, hlv.2, HA.out, ?_⟩
                  rw [HLx.out, HQ.out, Int.natCast_add]
                  exact hG5
              case neg =>
                have HB : Hid (¬ GoodG L ex (pre ++ [(y1, y2)])) := fun h => hx2 (by have := (HSx.out.1 h).2.1; injection this with _ h2; rw [h2]; exact HD.out)
                have hb1 : (Lj[y1].toList == y2.toList) = false := by rw [Bool.eq_false_iff]; exact fun e => hx2 (bytes_eq e).symm
                clear hx2
                gi_wp2_with fail
                refine ⟨trivial, ?_⟩
                refine (CallsIn.inRound l (callsIn_wide.2 HC.out)).mono ?_
                rintro e w4 ⟨rfl, hb4⟩
                have hG4 := hG.bel hb4
                have c8 := box_cell hG4.k
                have c4 := box_cell hG4.res
                have z4 := hG4.res.free 0
                gi_wp2
                exact ⟨((Leaves.below hb4).trans (Leaves.set (B := W6.heap.size) (Bs := b7 + 2) (S := S) w4 (p := ⟨w.heap.size, 0, none⟩) (by intro e; have : b7 + 2 = w.heap.size := e; omega) (.bool false))).1, ⟨⟨rfl, HB.out⟩, trivial⟩⟩
            case neg =>
              have hn1 : ((y1 : Int) != (j : Int)) = true := by simp; omega
              have hn2 : (y1 != j) = true := by simpa using hx1
              have HB : Hid (¬ GoodG L ex (pre ++ [(y1, y2)])) := fun h => hx1 (by have := (HSx.out.1 h).2.1; injection this)
              clear hx1
              gi_wp2_with fail
              refine ⟨trivial, ?_⟩
              refine (CallsIn.inRound l (callsIn_wide.2 HC.out)).mono ?_
              rintro e w4 ⟨rfl, hb4⟩
              have hG4 := hG.bel hb4
              have c8 := box_cell hG4.k
              have c4 := box_cell hG4.res
              have z4 := hG4.res.free 0
              gi_wp2
              exact ⟨((Leaves.below hb4).trans (Leaves.set (B := W6.heap.size) (Bs := b7 + 2) (S := S) w4 (p := ⟨w.heap.size, 0, none⟩) (by intro e; have : b7 + 2 = w.heap.size := e; omega) (.bool false))).1, ⟨⟨rfl, HB.out⟩, trivial⟩⟩
          case neg =>
            have HC := Lib.hid (get_out_at hSj hl (y1 : Int) (by omega))
            by_cases hx1 : y1 = j
            case pos =>
              subst hx1
              have HB : Hid (¬ GoodG L ex (pre ++ [(y1, y2)])) := fun h => hin (HSx.out.1 h).2.2
              gi_wp2_with fail
              refine ⟨trivial, ?_⟩
              refine (CallsIn.inRound l (callsIn_wide.2 HC.out)).mono ?_
              rintro e w4 ⟨rfl, hb4⟩
              have hG4 := hG.bel hb4
              have c8 := box_cell hG4.k
              have c4 := box_cell hG4.res
              have z4 := hG4.res.free 0
              gi_wp2
              exact ⟨((Leaves.below hb4).trans (Leaves.set (B := W6.heap.size) (Bs := b7 + 2) (S := S) w4 (p := ⟨w.heap.size, 0, none⟩) (by intro e; have : b7 + 2 = w.heap.size := e; omega) (.bool false))).1, ⟨⟨rfl, HB.out⟩, trivial⟩⟩
            case neg =>
              have hn1 : ((y1 : Int) != (j : Int)) = true := by simp; omega
              have hn2 : (y1 != j) = true := by simpa using hx1
              have HB : Hid (¬ GoodG L ex (pre ++ [(y1, y2)])) := fun h => hx1 (by have := (HSx.out.1 h).2.1; injection this)
              clear hx1
              gi_wp2_with fail
              refine ⟨trivial, ?_⟩
              refine (CallsIn.inRound l (callsIn_wide.2 HC.out)).mono ?_
              rintro e w4 ⟨rfl, hb4⟩
              have hG4 := hG.bel hb4
              have c8 := box_cell hG4.k
              have c4 := box_cell hG4.res
              have z4 := hG4.res.free 0
              gi_wp2
              exact ⟨((Leaves.below hb4).trans (Leaves.set (B := W6.heap.size) (Bs := b7 + 2) (S := S) w4 (p := ⟨w.heap.size, 0, none⟩) (by intro e; have : b7 + 2 = w.heap.size := e; omega) (.bool false))).1, ⟨⟨rfl, HB.out⟩, trivial⟩⟩
        case stop =>
          rintro D c pre W hD hSp ⟨⟨_, hng⟩, _⟩ hK
          exact absurd hSp hng
        case done =>
          rintro D xs W hD ⟨hgx, hlx⟩ ⟨_, hG⟩ hK
          have hle1 : xs.length ≤ (goesL L ex xs.length).length := goodG_le hgx
          have hle2 := (goesL_length L ex xs.length).1
          obtain ⟨FF, hSx, _, _⟩ := hG.store
          have hLen := fun W' (hb : Below W.heap.size W W') => len_at (hSx.below hb)
          rw [show (goesL L ex xs.length).length = xs.length from by omega] at hLen hle2
          have HLen := Lib.hid hLen
          clear hLen hle1 hlx hgx hSx
          generalize xs.length = kk at *
          generalize goesL L ex kk = Lk at *
          have c5 := box_cell hG.t
          have c8 := box_cell hG.k
          have hDl := (Array.getElem?_eq_some_iff.1 hK).1
          generalize L.length = m0 at *
          have hH4 := hG.res
          by_cases hb0 : m0 = 0
          case pos =>
            have hb1 : ((m0 : Int) == 0) = true := by simp; exact hb0
            clear hb0
            gi_wp2_with fail
            refine wpIn_wide.2 ?_
            have c5' : ({ heap := W.heap, tape := W.tape, drawn := W.drawn + 1, os := W.os, output := W.output } : World).cell? ⟨b5, 0, none⟩ = some (.pointer (some ⟨S, 0, none⟩)) := c5
            have c8' : ({ heap := W.heap, tape := W.tape, drawn := W.drawn + 1, os := W.os, output := W.output } : World).cell? ⟨b7 + 1, 0, none⟩ = some (.int .i64 (kk : Int)) := c8
            have hbm : Below W.heap.size W W.drew := (Below.refl _ _).drew
            have HLb := Lib.hid (still_of (HLen.out _ hbm))
            go_still_tail 14, (by kernel_rfl)
            still_call HLb.out
            repeat still_step
            refine wpStill_nil ?_
            clear c5' c8'
            go_wp2_with (go_at_call 9; refine (known_any _).mono ?_; rintro e w4 ⟨rfl, hb4⟩; have hb5 := hbm.trans (hb4.mono hbm.size); have hH5 := hH4.of_eq (hb5.block _ hH4.lt); have x4 := box_cell hH5; have z4 := hH5.free 0)
            gi_wp2
            have hK2 := (hb5.block D hDl).trans hK
            have hK3 := (KeepsOthers.setCell w4 ⟨w.heap.size, 0, none⟩ (.bool true)).same D _ hK2 rfl
            have hH6 := (hH5.put 0 (.bool true)).kept_row (grownBy_putObj' _ D (.deferred none)) (fun r e => by cases e; exact ⟨_, hK3, rfl⟩)
            have d6 := box_cell hH6
            have hB6 := (hG.below.trans (hb5.mono hG.below.size)).setCell (p := ⟨w.heap.size, 0, none⟩) (Nat.le_refl _) (.bool true)
            refine ⟨by simp, .inl ⟨_, _, rfl, run_takeDeferred hK3, ?_⟩⟩
            refine ⟨.bool true, ?_, rfl, hB6.trans (belowK_b (w := w) (Nat.le_refl _) _ D _ _ (by omega) hK3 rfl rfl)⟩
            simp [results, Try.f5, go_sem, d6]
          case neg =>
            have hb1 : ((m0 : Int) == 0) = false := by simp; omega
            clear hb0
            gi_wp2_with fail
            refine wpIn_wide.2 ?_
            have c5' : ({ heap := W.heap, tape := W.tape, drawn := W.drawn + 1, os := W.os, output := W.output } : World).cell? ⟨b5, 0, none⟩ = some (.pointer (some ⟨S, 0, none⟩)) := c5
            have c8' : ({ heap := W.heap, tape := W.tape, drawn := W.drawn + 1, os := W.os, output := W.output } : World).cell? ⟨b7 + 1, 0, none⟩ = some (.int .i64 (kk : Int)) := c8
            have hbm : Below W.heap.size W W.drew := (Below.refl _ _).drew
            have HLb := Lib.hid (still_of (HLen.out _ hbm))
            go_still_tail 14, (by kernel_rfl)
            still_call HLb.out
            repeat still_step
            refine wpStill_nil ?_
            clear c5' c8'
            go_wp2_with (go_at_call 9; refine (known_any _).mono ?_; rintro e w4 ⟨rfl, hb4⟩; have hb5 := hbm.trans (hb4.mono hbm.size); have hH5 := hH4.of_eq (hb5.block _ hH4.lt); have x4 := box_cell hH5; have z4 := hH5.free 0)
            gi_wp2
            have hK2 := (hb5.block D hDl).trans hK
            have hK3 := (KeepsOthers.setCell w4 ⟨w.heap.size, 0, none⟩ (.bool true)).same D _ hK2 rfl
            have hH6 := (hH5.put 0 (.bool true)).kept_row (grownBy_putObj' _ D (.deferred none)) (fun r e => by cases e; exact ⟨_, hK3, rfl⟩)
            have d6 := box_cell hH6
            have hB6 := (hG.below.trans (hb5.mono hG.below.size)).setCell (p := ⟨w.heap.size, 0, none⟩) (Nat.le_refl _) (.bool true)
            refine ⟨by simp, .inl ⟨_, _, rfl, run_takeDeferred hK3, ?_⟩⟩
            refine ⟨.bool true, ?_, rfl, hB6.trans (belowK_b (w := w) (Nat.le_refl _) _ D _ _ (by omega) hK3 rfl rfl)⟩
            simp [results, Try.f5, go_sem, d6]
end Go.Proofs.Ytgacglmbhfppgaa
