/- The walk of AmpleAmong (printed by mkamw.py out of amw.txt). -/
import Derived.Test.YtcopoaaofjeklaaMvq
import Derived.Test.YtcopoaaofjeklaaApl
import Derived.Test.YtcopoaaofjeklaaAlz
namespace Go.Proofs.Ytcopoaaofjeklaa.G
open Go.RowKit Go.Maps
set_option linter.unusedVariables false
set_option linter.unusedSimpArgs false

theorem tprops_lt (vs : List Nat) : ∀ (l : List TProp) (i : Nat), tprops vs l i < 2 ^ (i + l.length)
  | [], i => by rw [tprops]; exact Nat.two_pow_pos _
  | p :: l, i => by
    rw [tprops]
    have h := tprops_lt vs l (i + 1)
    rw [List.length_cons, show i + (l.length + 1) = i + 1 + l.length by omega]
    refine Nat.or_lt_two_pow ?_ h
    split
    · exact pow2_lt (by omega)
    · exact Nat.two_pow_pos _
theorem look_lt {t : PThr} (ht : OkT t) (s : ByteArray) : (tlook t s).props < 18446744073709551616 := by
  have h2 : (2 : Nat) ^ 60 < 18446744073709551616 := by decide
  have hl := ht.len.2.2
  unfold tlook
  split
  · rename_i vs ns _
    have h1 := tprops_lt vs t.props 0
    have h3 : (2 : Nat) ^ (0 + t.props.length) ≤ 2 ^ 60 := Nat.pow_le_pow_right (by omega) (by omega)
    show tprops vs t.props 0 < _
    omega
  · show (0 : Nat) < _
    omega
theorem next_turns {t : PThr} (ht : OkT t) {s : ByteArray} {m : PMove} (hm : m ∈ tnext t s) : m.turns < 18446744073709551616 := by
  unfold tnext at hm
  split at hm
  · obtain ⟨q, l, x, j, a, _, _, _, rfl⟩ := tprocs_of hm
    exact tfootT_lt ht.len.2.2
  · cases hm
theorem next_len {t : PThr} (ht : OkT t) (s : ByteArray) : (tnext t s).length ≤ 8000 := by
  unfold tnext
  split
  · rename_i vs ns _
    have := tprocs_len (t := t) (vs := vs) (ns := ns) t.procs 0 fun l hl x hx => Nat.le_trans (mem_le_sum (List.mem_map.2 ⟨x, hx, rfl⟩)) (ht.procs l hl).2.2.1
    have := ht.len.2.1
    omega
  · simp
theorem ofT_stat {t : PThr} {w w' : World} {e : Ending} (h : TOfPost t w e w') : Below w.heap.size w w' ∧ ((∃ I : Ifc, e = .returned (.tuple #[.iface I.tid I.dyn, .int .i64 0]) ∧ OkT t ∧ StatOk I tifs (tstat t) w') ∨ e = .returned (.tuple #[.nilIface, .int .i64 150])) := by
  obtain ⟨h1, h⟩ := h
  refine ⟨h1, ?_⟩
  rcases h with ⟨ui, up, uq, rfl, hok, hv⟩ | ⟨rfl, _⟩
  · exact .inl ⟨tifc ui up uq, rfl, hok, threads_stat hv hok⟩
  · exact .inr rfl
theorem MvsV.ptr {P : Nat → Prop} {w : World} {v : Value} {l : List PMove} {n : Nat} (h : MvsV P w v l) (hn : l.length = n) (h0 : 0 < n) : ∃ g o c, v = .slice (some ⟨g, o, none⟩) n c := by
  obtain ⟨f, hr, hg⟩ := h
  subst hn
  obtain ⟨g, o, c, cs, he, _⟩ := hr.atN oneMv hg h0
  exact ⟨g, o, c, he⟩
theorem MvsV.elem {P : Nat → Prop} {w : World} {g o n c : Nat} {l : List PMove} (h : MvsV P w (.slice (some ⟨g, o, none⟩) n c) l) (k : Nat) (hk : k < l.length) : ∃ cs, MvF P w l[k] cs ∧ w.rangeAt g (o + k * 9) cs := by
  obtain ⟨f, hr, hg⟩ := h
  have hn : n = l.length := by obtain ⟨_, _, he, _⟩ := hr; injection he
  subst hn
  obtain ⟨g', o', c', cs, he, hG, hrr⟩ := hr.atN oneMv hg hk
  injection he with he _ _
  injection he with he
  injection he with he1 he2
  subst he1 he2
  exact ⟨cs, hG, hrr⟩
theorem cell_up {w w' : World} {g o : Nat} {v : Value} (h : w.cell? ⟨g, o, none⟩ = some v) (hb : Below w.heap.size w w') : w'.cell? ⟨g, o, none⟩ = some v := by
  rw [hb.cell (World.block_lt_of_cell? w _ h)]; exact h
theorem below_drewN {base : Nat} {w w' : World} (h : Below base w w') (hb : base ≤ w.heap.size) (n : Nat) : Below base w (w'.drewN n) := h.trans (⟨rfl, rfl, rfl, Nat.le_refl _, fun _ _ => rfl⟩ : Below base w' (w'.drewN n))
theorem field_sight (p : Nat) (u1 u2 u3 : Bool) (w : World) : (Instr.field 46 (.agg #[.int .u64 (p : Int), .bool u1, .bool u2, .bool u3]) 0).run Try.prog w = .ok (.int .u64 (p : Int)) w := by kernel_rfl
/-- What lies in a row of moves, at a place. -/
theorem MvsV.cells {P : Nat → Prop} {w : World} {g o n c : Nat} {l : List PMove} (h : MvsV P w (.slice (some ⟨g, o, none⟩) n c) l) (k : Nat) {m : PMove} (hk : l[k]? = some m) : w.cell? ⟨g, o + k * 9, none⟩ = some (.int .i64 m.proc) ∧ w.cell? ⟨g, o + k * 9 + 4, none⟩ = some (.string m.dst) ∧ w.cell? ⟨g, o + k * 9 + 5, none⟩ = some (.int .i64 m.bad) ∧ w.cell? ⟨g, o + k * 9 + 8, none⟩ = some (.int .u64 (m.turns : Int)) := by
  obtain ⟨hkl, rfl⟩ := List.getElem?_eq_some_iff.1 hk
  obtain ⟨cs, ⟨vr, vw, rfl, _⟩, hrr⟩ := h.elem k hkl
  exact ⟨hrr 0 _ rfl, hrr 4 _ rfl, hrr 5 _ rfl, hrr 8 _ rfl⟩
set_option maxHeartbeats 8000000 in
set_option maxRecDepth 100000 in
theorem lawAmong {P P' : Nat → Prop} {w : World} {t : PThr} {vi vp vq vy : Value} {vis : Nat} {wy : List Int} (h : ThrV P w vi vp vq t) (hs : SmallT t) (hv : vis < 18446744073709551616) (hw : RowL P' w 1 vy wy.length (wy.map intV)) (hr : ∀ c ∈ wy, -9223372036854775808 ≤ c ∧ c ≤ 9223372036854775807) :
    Calls Try.prog 4 #[.agg #[vi, vp, vq], .int .u64 (vis : Int), vy] w (Yes w) := by
  obtain ⟨w1, hw1⟩ : ∃ W, W = w.alloc (.cells #[vi, vp, vq] 31) := ⟨_, rfl⟩
  have hb1 : Below w.heap.size w w1 := by rw [hw1]; exact (Below.refl _ _).alloc (Nat.le_refl _) _
  have h1 : Holds w1 w.heap.size 31 [vi, vp, vq] := by rw [hw1]; exact Holds.new w 31 #[vi, vp, vq]
  have HT := Lib.hid (ofTFn (h.up (Keep.below hb1)) hs)
  have HRG := Lib.hid (h1.range (i := 0) (n := 3) (xs := [vi, vp, vq]) rfl)
  have HB1 := Lib.hid hb1
  have HV := Lib.hid hv
  have HR := Lib.hid hr
  obtain ⟨ay, cy, rfl, hcy, hcy2, _⟩ := hw.form
  obtain ⟨M, hM⟩ : ∃ M, wy.length = M := ⟨_, rfl⟩
  have HM := Lib.hid hM
  have HW := Lib.hid hw
  have c1 : vi.oneCell' = true := h.init.cell1
  have c2 : vp.oneCell' = true := by obtain ⟨_, k, _⟩ := h.procs; exact k.cell1
  have c3 : vq.oneCell' = true := by obtain ⟨_, k, _⟩ := h.props; exact k.cell1
  rw [hM] at hcy ⊢
  clear h hs hv hw hr hb1 h1 hM
  go_enter Try.func4, Try.ntmps4
  go_upto_region 1 with (fail)
  rw [← hw1]
  obtain ⟨b3, hb3⟩ : ∃ b, w.heap.size = b := ⟨_, rfl⟩
  rw [hb3] at HRG ⊢
  clear hw1
  go_wp2_with (refine wpList_load_mid rfl 31 _ rfl b3 0 rfl [vi, vp, vq] _ HRG.out Try.underlying31 rfl sz_thr ?_)
  refine HT.out.mono ?_
  rintro e w2 hpost
  obtain ⟨hb2, hpost⟩ := ofT_stat hpost
  have HB2 : Hid (Below w.heap.size w w2) := HB1.out.trans (hb2.mono HB1.out.size)
  have HW2 := Lib.hid (HW.out.up (Keep.below HB2.out))
  clear hb2 HT HRG HW HB1 hb3
  have HEND : Hid (∀ W : World, Below w.heap.size w W → Calls Try.prog 5 #[] W (fun e W' => e = .returned (.bool true) ∧ Below w.heap.size w W')) := fun W hW => (knownFn W).mono fun e W' ⟨h1, h2⟩ => ⟨h1, hW.trans (h2.mono hW.size)⟩
  rcases hpost with ⟨I, rfl, hok, hst⟩ | rfl
  case inr =>
    go_wp2_with (fail)
    refine (HEND.out w2 HB2.out).mono ?_
    rintro e w3 ⟨rfl, hb3⟩
    have HB3 := Lib.hid hb3
    clear hb3
    go_wp2
    go_ret
    exact ⟨rfl, HB3.out⟩
  have HST := Lib.hid hst
  have HOK := Lib.hid hok
  have m1 := hst.sys.mB
  have m2 := hst.sys.eB
  have hbs := hst.sys.small.beg
  have hbg := hst.sys.beg w2 (Below.refl _ _)
  obtain ⟨s0, hs0⟩ : ∃ s, (tstat t).sys.beg = s := ⟨_, rfl⟩
  rw [hs0] at hbs hbg
  have HS0 := Lib.hid hbs
  have HBG := Lib.hid hbg
  have HDS : Hid (∀ s, s.size ≤ 1048576 → ∀ m ∈ tnext t s, m.dst.size ≤ 1048576) := hst.sys.small.dsts
  have HRS : Hid (∀ s, s.size ≤ 1048576 → ∀ m ∈ tnext t s, m.reads.length ≤ 2000000 ∧ m.writes.length ≤ 2000000) := hst.sys.small.reads
  have HAL : Hid (∀ W s, Below w2.heap.size w2 W → s.size ≤ 1048576 → Calls Try.prog 9 #[.iface I.tid I.dyn, .string s, .int .i64 10000] W (fun e W' => Below W.heap.size W W' ∧ ∃ v, e = .returned v ∧ MvsV (fun _ => True) W' v (tnext t s))) := fun W s hW hs => (all17 (most := 10000) (hst.sys.at hW) hs (by omega)).mono fun e W' ⟨h1, vo, k, fo, lo, h2, h3, h4, h5, h6, h7, h8⟩ => by
    have hl := next_len hok s
    have hk : k = (tnext t s).length := by
      rcases h3 with h3 | h3
      · exact h3
      · have h4 : k ≤ (tnext t s).length := h4
        omega
    rw [hk, show (tstat t).sys.next s = tnext t s from rfl, List.take_length] at h8
    rw [hk] at h7
    exact ⟨h1, vo, h2, fo, RowL.of_owns h7 fun _ _ => trivial, LsF.mono (fun _ _ => MvF.mono fun _ _ _ => trivial) _ (LsF.imp (Q := fun q => lo ≤ q ∧ vo.ownBlock ≠ some q) (fun _ _ => MvF.of) _ h8)⟩
  have HCH : Hid (∀ W s, Below w2.heap.size w2 W → s.size ≤ 1048576 → Calls Try.prog 10 #[.iface I.tid I.dyn, .string s, .int .u64 (vis : Int), .nilFunc] W (ChPost (chooseP (tstat t) s vis) W)) := fun W s hW hs => chooseFn (hst.at hW) hs HV.out
  have HLK : Hid (∀ W s, Below w2.heap.size w2 W → s.size ≤ 1048576 → Calls Try.prog I.fL #[I.dyn, .string s] W (fun e W' => Below W.heap.size W W' ∧ e = .returned (sight (tlook t s)))) := fun W s hW hs => hst.sys.look W s hW hs
  have HmL := Lib.hid hst.sys.mL
  have HeL := Lib.hid hst.sys.eL
  have HnL := Lib.hid hst.sys.nL
  clear hst hok hs0 hbs hbg HST
  go_wp2_with (fail)
  refine HBG.out.mono ?_
  rintro e w4 ⟨rfl, hb4⟩
  have HB4 : Hid (Below w2.heap.size w2 w4) := hb4
  clear hb4 HBG m1 m2
  go_wp2_with (fail)
  go_loopw [9, 10] (fun sv iv wr => ∃ (i : Nat) (s : ByteArray), sv = .string s ∧ iv = .int .i64 (i : Int) ∧ i ≤ 20 ∧ i ≤ M ∧ Hid (s.size ≤ 1048576) ∧ Hid (Below w2.heap.size w2 wr)) (fun _ iv _ => 20 - (intOf iv).toNat)
  case atStart => exact ⟨0, s0, rfl, rfl, by omega, Nat.zero_le _, HS0, HB4⟩
  case round =>
    obtain ⟨i, s, hsv, hx, hi20, hiM, HSS, HB⟩ := hrel
    subst hsv hx
    by_cases hin : i < M
    case neg =>
      have d1 : decide ((i : Int) < (M : Int)) = false := decide_eq_false (by omega)
      have hin2 : ¬ (i : Int) < (M : Int) := by omega
      have HBW : Hid (Below w.heap.size w wr) := HB2.out.trans (HB.out.mono HB2.out.size)
      go_wp2_with (fail)
      refine (HEND.out wr HBW.out).mono ?_
      rintro e w3 ⟨rfl, hb3⟩
      have HB3 := Lib.hid hb3
      clear hb3
      go_wp2
      go_ret
      exact ⟨rfl, HB3.out⟩
    by_cases hi2 : i < 20
    case neg =>
      have hin2 : (i : Int) < (M : Int) := by omega
      have hi22 : ¬ (i : Int) < 20 := by omega
      have HBW : Hid (Below w.heap.size w wr) := HB2.out.trans (HB.out.mono HB2.out.size)
      go_wp2_with (fail)
      refine (HEND.out wr HBW.out).mono ?_
      rintro e w3 ⟨rfl, hb3⟩
      have HB3 := Lib.hid hb3
      clear hb3
      go_wp2
      go_ret
      exact ⟨rfl, HB3.out⟩
    have hin2 : (i : Int) < (M : Int) := by omega
    have hi22 : (i : Int) < 20 := by omega
    have hi0i : (0 : Int) ≤ (i : Int) := by omega
    have hwii : IntKind.i64.wrap (i : Int) = (i : Int) := by rw [IntKind.wrap_i64]; omega
    have hwji : IntKind.i64.wrap ((i : Int) + 1) = (i : Int) + 1 := by rw [IntKind.wrap_i64]; omega
    have hil : i < wy.length := by rw [HM.out]; exact hin
    have hwr := HW2.out.up (Keep.below HB.out)
    rw [HM.out] at hwr
    have hwr' := hwr
    rw [← HM.out] at hwr'
    have hat := at_int (n := wy.length) hwr' hil
    obtain ⟨gy, oy, hay, hyc0⟩ := hat
    subst hay
    clear hyc0
    obtain ⟨cc, hcc⟩ : ∃ c, wy[i] = c := ⟨_, rfl⟩
    have HCC := Lib.hid (HR.out cc (by rw [← hcc]; exact List.getElem_mem hil))
    have HYC : Hid (∀ W, Below wr.heap.size wr W → W.cell? ⟨gy, oy + i, none⟩ = some (.int .i64 cc)) := fun W hW => by
      have h1 := hwr'.up (Keep.below hW)
      obtain ⟨g2, o2, he, hc⟩ := at_int (n := wy.length) h1 hil
      injection he with he
      injection he with he1 he2
      subst he1 he2
      rw [hcc] at hc
      exact hc
    clear hwr hwr' hcc hil
    go_wp2_with (fail)
    refine (HAL.out wr s HB.out HSS.out).mono ?_
    rintro e wa ⟨hba, ve, rfl, hve⟩
    have HBA : Hid (Below w2.heap.size w2 wa) := HB.out.trans (hba.mono HB.out.size)
    have HBA0 := Lib.hid hba
    have HVE := Lib.hid hve
    clear hba hve
    obtain ⟨⟨l, b⟩, hcr⟩ : ∃ r, chooseP (tstat t) s vis = r := ⟨_, rfl⟩
    obtain ⟨p, ham⟩ := among HOK.out s vis hcr
    have HAM := Lib.hid ham
    have hcall := HCH.out wa s HBA.out HSS.out
    rw [hcr] at hcall
    have HCA := Lib.hid hcall
    have HMM : Hid (∀ m ∈ tnext t s, m.dst.size ≤ 1048576 ∧ (m.reads.length ≤ 2000000 ∧ m.writes.length ≤ 2000000) ∧ m.turns < 18446744073709551616) := fun m hm => ⟨HDS.out s HSS.out m hm, HRS.out s HSS.out m hm, next_turns HOK.out hm⟩
    have hnl := next_len HOK.out s
    obtain ⟨ms, hms⟩ : ∃ l, tnext t s = l := ⟨_, rfl⟩
    rw [hms] at hnl HMM HVE HAM
    obtain ⟨aE, cE, rfl, hcE⟩ := HVE.out.lens rfl
    obtain ⟨N, hN⟩ : ∃ N, ms.length = N := ⟨_, rfl⟩
    have HN := Lib.hid hN
    rw [hN] at HVE hnl hcE ⊢
    clear hcr ham hcall hms hN
    go_wp2_with (fail)
    refine HCA.out.mono ?_
    rintro e wb ⟨hbb, vl, rfl, hvl⟩
    dsimp only at hvl
    have HBB : Hid (Below w2.heap.size w2 wb) := HBA.out.trans (hbb.mono HBA.out.size)
    have HBB0 : Hid (Below wr.heap.size wr wb) := HBA0.out.trans (hbb.mono HBA0.out.size)
    have HVEb := Lib.hid (HVE.out.up (Keep.below hbb))
    have HVL := Lib.hid hvl
    obtain ⟨aL, cL, rfl, hcL⟩ := hvl.lens rfl
    obtain ⟨LL, hL⟩ : ∃ LL, l.length = LL := ⟨_, rfl⟩
    have HL := Lib.hid hL
    rw [hL] at HVL hcL ⊢
    have hLN : LL ≤ N := by rw [← hL, ← HN.out, HAM.out.eq]; exact List.length_filter_le _ _
    have hless := HAM.out.less
    rw [hL, HN.out] at hless
    have hsome : 0 < N → 0 < LL := by
      have h := HAM.out.some
      rw [hL, HN.out] at h
      exact h
    have HSO := Lib.hid hsome
    clear hbb hvl hL HCA HVE HBA0
    have hsN : N = 0 ∨ (0 < N ∧ 0 < LL) := by
      rcases Nat.eq_zero_or_pos N with h | h
      · exact .inl h
      · exact .inr ⟨h, hsome h⟩
    have HLS := Lib.hid hless
    clear hsome hless
    go_upto_region 12 with (fail)
    go_cut [65, 16] (fun sv kv wx => sv = .bool false ∧ wx = wb)
    case first =>
      cases b with
      | true =>
        have h1 : LL < N := by simpa using HLS.out.symm
        have hI : (LL : Int) < (N : Int) := by omega
        have hL1 : ((LL : Int) == 0) = false := by rw [Bool.eq_false_iff]; intro h; have h4 := eq_of_beq h; omega
        have hN1 : (0 : Int) < (N : Int) := by omega
        clear h1 hsN
        go_wp2
        go_meet
        case rel => exact ⟨rfl, rfl⟩
      | false =>
        have h1 : ¬ LL < N := by simpa using HLS.out.symm
        have hI : ¬ (LL : Int) < (N : Int) := by omega
        rcases hsN with hN0 | ⟨hN0, hL0⟩
        · have hN1 : ¬ (0 : Int) < (N : Int) := by omega
          clear h1 hN0
          go_wp2
          go_meet
          case rel => exact ⟨rfl, rfl⟩
        · have hN1 : (0 : Int) < (N : Int) := by omega
          have hL1 : ((LL : Int) == 0) = false := by rw [Bool.eq_false_iff]; intro h; have h4 := eq_of_beq h; omega
          clear h1 hN0 hL0
          go_wp2
          go_meet
          case rel => exact ⟨rfl, rfl⟩
    case rest =>
      obtain ⟨hsv, hwc⟩ := hcut
      subst hsv hwc
      obtain ⟨wc0, hwc0⟩ : ∃ W, W = wc := ⟨_, rfl⟩
      subst hwc0
      obtain ⟨F, hF⟩ : ∃ F : PMove → Bool, (fun m => !b || decide (m.proc = p)) = F := ⟨_, rfl⟩
      have HEQ : Hid (l = ms.filter F) := by show _ = _; rw [← hF]; exact HAM.out.eq
      have HFF : Hid (∀ m : PMove, F m = (!b || decide (m.proc = p))) := fun m => by rw [← hF]
      clear hF
      go_wp2
      go_loopw [14, 15] (fun kv jv wx => ∃ jj : Nat, kv = .int .i64 ((((ms.take jj).filter F).length : Nat) : Int) ∧ jv = .int .i64 (jj : Int) ∧ jj ≤ N ∧ Hid (Below wc0.heap.size wc0 wx)) (fun _ jv _ => N - (intOf jv).toNat)
      case atStart => exact ⟨0, rfl, rfl, Nat.zero_le _, Below.refl _ _⟩
      case round =>
        obtain ⟨jj, hkv, hjv, hj, HX⟩ := hrel
        subst hkv hjv
        by_cases hjn : jj < N
        · have hjl : jj < ms.length := by rw [HN.out]; exact hjn
          have hj2j : (jj : Int) < (N : Int) := by omega
          have hj0j : (0 : Int) ≤ (jj : Int) := by omega
          have hwjj : IntKind.i64.wrap (jj : Int) = (jj : Int) := by rw [IntKind.wrap_i64]; omega
          have hwj1 : IntKind.i64.wrap ((jj : Int) + 1) = (jj : Int) + 1 := by rw [IntKind.wrap_i64]; omega
          have hks := filter_step F ms hjl
          obtain ⟨m, hm⟩ : ∃ m, ms[jj] = m := ⟨_, rfl⟩
          have hmj : ms[jj]? = some m := by rw [List.getElem?_eq_getElem hjl, hm]
          rw [hm] at hks
          have hfa : F m = true → (ms.filter F)[((ms.take jj).filter F).length]? = some m := fun h => by
            have := filter_at F ms hjl (by rw [hm]; exact h)
            rw [hm] at this
            exact this
          have hkj : ((ms.take jj).filter F).length ≤ jj := Nat.le_trans (List.length_filter_le _ _) (by rw [List.length_take]; omega)
          obtain ⟨K, hK⟩ : ∃ K, ((ms.take jj).filter F).length = K := ⟨_, rfl⟩
          rw [hK] at hks hfa hkj ⊢
          rw [← HEQ.out] at hfa
          have HKS := Lib.hid hks
          have HFA := Lib.hid hfa
          have HMJ := Lib.hid hmj
          have hK0 : (0 : Int) ≤ (K : Int) := by omega
          have hwKK : IntKind.i64.wrap (K : Int) = (K : Int) := by rw [IntKind.wrap_i64]; omega
          have hwK1 : IntKind.i64.wrap ((K : Int) + 1) = (K : Int) + 1 := by rw [IntKind.wrap_i64]; omega
          have hL0 : 0 < LL := HSO.out (by omega)
          have hmem := List.mem_of_getElem? hmj
          have HMI := Lib.hid (HMM.out m hmem)
          have HFI := Lib.hid (fun h : b = true => fun h2 : m.proc = p => HAM.out.fine h m hmem h2)
          have hve := HVEb.out.up (Keep.below HX.out)
          have hvl := HVL.out.up (Keep.below HX.out)
          obtain ⟨gE, oE, cE', hee⟩ := hve.ptr HN.out (by omega)
          injection hee with hee _ hee2
          subst hee hee2
          obtain ⟨gL, oL, cL', hll⟩ := hvl.ptr HL.out hL0
          injection hll with hll _ hll2
          subst hll hll2
          have HVX := Lib.hid hve
          have HVM := Lib.hid hvl
          obtain ⟨xp, xd, xb, xt⟩ := hve.cells jj hmj
          obtain ⟨m0, hm0⟩ : ∃ m0, l[0]? = some m0 := ⟨l[0]'(by rw [HL.out]; exact hL0), List.getElem?_eq_getElem _⟩
          have y0 := (hvl.cells 0 hm0).1
          rw [Nat.zero_mul, Nat.add_zero] at y0
          have hm0p : b = true → m0.proc = p := fun h => by
            have h1 := List.mem_of_getElem? hm0
            rw [HEQ.out] at h1
            have h2 := (List.mem_filter.1 h1).2
            rw [HFF.out, h] at h2
            simpa using h2
          have HM0 := Lib.hid hm0p
          have HY0 := Lib.hid y0
          have HXP := Lib.hid xp
          have HXDC := Lib.hid xd
          have HXBC := Lib.hid xb
          have HXTC := Lib.hid xt
          clear hK hks hfa hmj hm hjl hve hvl hmem hm0 hm0p xp xd xb xt y0
          go_upto_region 18 with (fail)
          go_cut [16] (fun sv wx2 => sv = .bool (F m) ∧ Hid (Below wr.heap.size wr wx2))
          case first =>
            by_cases hKL : K < LL
            · have hKL2 : (K : Int) < (LL : Int) := by omega
              have hkl : K < l.length := by rw [HL.out]; exact hKL
              obtain ⟨xL, hGL, hrL⟩ := HVM.out.elem K hkl
              have hjl : jj < ms.length := by rw [HN.out]; exact hjn
              obtain ⟨xE, hGE, hrE⟩ := HVX.out.elem jj hjl
              have hmj := HMJ.out
              rw [List.getElem?_eq_getElem hjl] at hmj
              injection hmj with hmj
              rw [hmj] at hGE
              have hlm : l[K] ∈ ms := by
                have h2 : l[K] ∈ ms.filter F := by rw [← HEQ.out]; exact List.getElem_mem hkl
                exact (List.mem_filter.1 h2).1
              have hlf : F l[K] = true := by
                have h2 : l[K] ∈ ms.filter F := by rw [← HEQ.out]; exact List.getElem_mem hkl
                exact (List.mem_filter.1 h2).2
              obtain ⟨bb, hbF, hbC⟩ : ∃ bb, bb = F m ∧ ∀ V, Below wr.heap.size wr V → Calls Try.prog 11 #[.agg xE.toArray, .agg xL.toArray] V (BoolB bb V) := by
                by_cases hFm : F m = true
                · have h1 := HFA.out hFm
                  rw [List.getElem?_eq_getElem hkl] at h1
                  injection h1 with h1
                  rw [h1] at hGL
                  exact ⟨true, hFm.symm, fun V hV => moveEq (oneMv.up (Keep.below hV) hGE) (oneMv.up (Keep.below hV) hGL) HMI.out.2.1⟩
                · have hne : m.proc ≠ l[K].proc := by
                    rw [HFF.out] at hFm hlf
                    have hb1 : b = true := by
                      cases b with
                      | true => rfl
                      | false => exact absurd rfl hFm
                    rw [hb1] at hFm hlf
                    simp at hFm hlf
                    rw [hlf]
                    exact hFm
                  exact ⟨false, by rw [Bool.not_eq_true] at hFm; exact hFm.symm, fun V hV => moveNe (oneMv.up (Keep.below hV) hGE) (oneMv.up (Keep.below hV) hGL) HMI.out.2.1 (HMM.out _ hlm).2.1 hne⟩
              have HMV := Lib.hid hbC
              have HBF := Lib.hid hbF
              have HZE := Lib.hid (oneMv.len hGE)
              have HZL := Lib.hid (oneMv.len hGL)
              have HRE := Lib.hid hrE
              have HRL := Lib.hid hrL
              clear hbC hbF hGE hGL hrE hrL hlm hlf hmj hjl hkl
              refine wp_region_rhoG (fun (r : Unit) j => ([(.int .i64 (K : Int)), (.slice (some ⟨gL, oL, none⟩) LL cL), (.int .i64 (LL : Int)), (.bool true), (.bool true), (.slice (some ⟨gE, oE, none⟩) N cE), (.int .i64 (jj : Int)), (.pointer (some ⟨gE, oE + jj * 9, none⟩)), (.agg (xE).toArray), (.slice (some ⟨gL, oL, none⟩) LL cL), (.int .i64 (K : Int)), (.pointer (some ⟨gL, oL + K * 9, none⟩)), (.agg (xL).toArray), (.bool bb), (.bool bb), (.bool bb)] : List Value).getD j undef) (fun _ L w2 => Below wr.heap.size wr w2) [(0, 72), (1, 73), (2, 74), (3, 75), (4, 76), (5, 77), (6, 78), (7, 79), (8, 80), (9, 81), (10, 82), (11, 83), (12, 84), (13, 85), (14, 86), (15, 16)] 181 rfl (by kernel_rfl) (by kernel_rfl) [(4, true)] (by kernel_rfl) (fun r p hp => by simp only [List.mem_cons, List.not_mem_nil, or_false] at hp; rcases hp with rfl <;> rfl) () (Below.refl _ _).drew (fun i hi => ?_) (fun r w9 hW9 => ?_)
              · have hi2 : i < 16 := hi
                clear hi
                have hi3 : i = 0 ∨ i = 1 ∨ i = 2 ∨ i = 3 ∨ i = 4 ∨ i = 5 ∨ i = 6 ∨ i = 7 ∨ i = 8 ∨ i = 9 ∨ i = 10 ∨ i = 11 ∨ i = 12 ∨ i = 13 ∨ i = 14 ∨ i = 15 := by omega
                clear hi2
                rcases hi3 with rfl | rfl | rfl | rfl | rfl | rfl | rfl | rfl | rfl | rfl | rfl | rfl | rfl | rfl | rfl | rfl
                · exact RhoOp.pure rfl (fun r L b w2 hl hR hW => by
                    have h14 : b.eval (.tmp 14) = .int .i64 (K : Int) := (hR.old (by decide) (by kernel_rfl)).trans rfl
                    simp only [Act.eval, Array.getD_eq_getD_getElem?] at h14
                    show (execOp b.eval _).run _ _ = .ok (.value (.int .i64 (K : Int))) _
                    unfold execOp
                    simp [go_sem, h14]) (fun _ _ _ _ h => h)
                · exact RhoOp.pure rfl (fun r L b w2 hl hR hW => by
                    have h12 : b.eval (.tmp 12) = .slice (some ⟨gL, oL, none⟩) LL cL := (hR.old (by decide) (by kernel_rfl)).trans rfl
                    simp only [Act.eval, Array.getD_eq_getD_getElem?] at h12
                    show (execOp b.eval _).run _ _ = .ok (.value (.slice (some ⟨gL, oL, none⟩) LL cL)) _
                    unfold execOp
                    simp [go_sem, h12]) (fun _ _ _ _ h => h)
                · exact RhoOp.pure rfl (fun r L b w2 hl hR hW => by
                    have h73 : b.eval (.tmp 73) = .slice (some ⟨gL, oL, none⟩) LL cL := hR.of (j := 1) (by decide) (by kernel_rfl)
                    simp only [Act.eval, Array.getD_eq_getD_getElem?] at h73
                    show (execOp b.eval _).run _ _ = .ok (.value (.int .i64 (LL : Int))) _
                    unfold execOp
                    simp [go_sem, h73]) (fun _ _ _ _ h => h)
                · exact RhoOp.pure rfl (fun r L b w2 hl hR hW => by
                    have h72 : b.eval (.tmp 72) = .int .i64 (K : Int) := hR.of (j := 0) (by decide) (by kernel_rfl)
                    have h74 : b.eval (.tmp 74) = .int .i64 (LL : Int) := hR.of (j := 2) (by decide) (by kernel_rfl)
                    simp only [Act.eval, Array.getD_eq_getD_getElem?] at h72 h74
                    show (execOp b.eval _).run _ _ = .ok (.value (.bool true)) _
                    unfold execOp
                    simp [go_sem, h72, h74, hKL2]) (fun _ _ _ _ h => h)
                · exact RhoOp.pure rfl (fun r L b w2 hl hR hW => by
                    have h75 : b.eval (.tmp 75) = .bool true := hR.of (j := 3) (by decide) (by kernel_rfl)
                    simp only [Act.eval, Array.getD_eq_getD_getElem?] at h75
                    show (execOp b.eval _).run _ _ = .ok (.value (.bool true)) _
                    unfold execOp
                    simp [go_sem, h75]) (fun _ _ _ _ h => h)
                · exact RhoOp.pure rfl (fun r L b w2 hl hR hW => by
                    have h11 : b.eval (.tmp 11) = .slice (some ⟨gE, oE, none⟩) N cE := (hR.old (by decide) (by kernel_rfl)).trans rfl
                    simp only [Act.eval, Array.getD_eq_getD_getElem?] at h11
                    show (execOp b.eval _).run _ _ = .ok (.value (.slice (some ⟨gE, oE, none⟩) N cE)) _
                    unfold execOp
                    simp [go_sem, h11]) (fun _ _ _ _ h => h)
                · exact RhoOp.pure rfl (fun r L b w2 hl hR hW => by
                    have h15 : b.eval (.tmp 15) = .int .i64 (jj : Int) := (hR.old (by decide) (by kernel_rfl)).trans rfl
                    simp only [Act.eval, Array.getD_eq_getD_getElem?] at h15
                    show (execOp b.eval _).run _ _ = .ok (.value (.int .i64 (jj : Int))) _
                    unfold execOp
                    simp [go_sem, h15]) (fun _ _ _ _ h => h)
                · exact RhoOp.pure rfl (fun r L b w2 hl hR hW => by
                    have h77 : b.eval (.tmp 77) = .slice (some ⟨gE, oE, none⟩) N cE := hR.of (j := 5) (by decide) (by kernel_rfl)
                    have h78 : b.eval (.tmp 78) = .int .i64 (jj : Int) := hR.of (j := 6) (by decide) (by kernel_rfl)
                    simp only [Act.eval, Array.getD_eq_getD_getElem?] at h77 h78
                    show (execOp b.eval _).run _ _ = .ok (.value (.pointer (some ⟨gE, oE + jj * 9, none⟩))) _
                    unfold execOp
                    simp [go_sem, h77, h78, hj0j, hj2j, hwjj]) (fun _ _ _ _ h => h)
                · exact RhoOp.pure rfl (fun r L b w2 hl hR hW => by
                    have hlo := run_loadAt_mid (P := Try.prog) w2 gE (oE + jj * 9) 44 xE _ (range_below HRE.out hW) Try.underlying44 rfl (by rw [HZE.out]; exact sz_Move)
                    have h79 : b.eval (.tmp 79) = .pointer (some ⟨gE, oE + jj * 9, none⟩) := hR.of (j := 7) (by decide) (by kernel_rfl)
                    simp only [Act.eval, Array.getD_eq_getD_getElem?] at h79
                    show (execOp b.eval _).run _ _ = .ok (.value (.agg (xE).toArray)) _
                    unfold execOp
                    simp [Act.eval, h79, Sem.run_bind, hlo]) (fun _ _ _ _ h => h)
                · exact RhoOp.pure rfl (fun r L b w2 hl hR hW => by
                    have h12 : b.eval (.tmp 12) = .slice (some ⟨gL, oL, none⟩) LL cL := (hR.old (by decide) (by kernel_rfl)).trans rfl
                    simp only [Act.eval, Array.getD_eq_getD_getElem?] at h12
                    show (execOp b.eval _).run _ _ = .ok (.value (.slice (some ⟨gL, oL, none⟩) LL cL)) _
                    unfold execOp
                    simp [go_sem, h12]) (fun _ _ _ _ h => h)
                · exact RhoOp.pure rfl (fun r L b w2 hl hR hW => by
                    have h14 : b.eval (.tmp 14) = .int .i64 (K : Int) := (hR.old (by decide) (by kernel_rfl)).trans rfl
                    simp only [Act.eval, Array.getD_eq_getD_getElem?] at h14
                    show (execOp b.eval _).run _ _ = .ok (.value (.int .i64 (K : Int))) _
                    unfold execOp
                    simp [go_sem, h14]) (fun _ _ _ _ h => h)
                · exact RhoOp.pure rfl (fun r L b w2 hl hR hW => by
                    have h81 : b.eval (.tmp 81) = .slice (some ⟨gL, oL, none⟩) LL cL := hR.of (j := 9) (by decide) (by kernel_rfl)
                    have h82 : b.eval (.tmp 82) = .int .i64 (K : Int) := hR.of (j := 10) (by decide) (by kernel_rfl)
                    simp only [Act.eval, Array.getD_eq_getD_getElem?] at h81 h82
                    show (execOp b.eval _).run _ _ = .ok (.value (.pointer (some ⟨gL, oL + K * 9, none⟩))) _
                    unfold execOp
                    simp [go_sem, h81, h82, hK0, hKL2, hwKK]) (fun _ _ _ _ h => h)
                · exact RhoOp.pure rfl (fun r L b w2 hl hR hW => by
                    have hlo := run_loadAt_mid (P := Try.prog) w2 gL (oL + K * 9) 44 xL _ (range_below HRL.out hW) Try.underlying44 rfl (by rw [HZL.out]; exact sz_Move)
                    have h83 : b.eval (.tmp 83) = .pointer (some ⟨gL, oL + K * 9, none⟩) := hR.of (j := 11) (by decide) (by kernel_rfl)
                    simp only [Act.eval, Array.getD_eq_getD_getElem?] at h83
                    show (execOp b.eval _).run _ _ = .ok (.value (.agg (xL).toArray)) _
                    unfold execOp
                    simp [Act.eval, h83, Sem.run_bind, hlo]) (fun _ _ _ _ h => h)
                · exact RhoOp.call (f := 11) rfl (fun r L b w2 hs hl hR hW => by
                    have h80 : b.eval (.tmp 80) = .agg (xE).toArray := hR.of (j := 8) (by decide) (by kernel_rfl)
                    have h84 : b.eval (.tmp 84) = .agg (xL).toArray := hR.of (j := 12) (by decide) (by kernel_rfl)
                    simp only [Act.eval, Array.getD_eq_getD_getElem?] at h80 h84
                    refine ⟨#[.agg xE.toArray, .agg xL.toArray], ?_, ?_⟩
                    · unfold execOp
                      simp [go_sem, h80, h84]
                    · refine (HMV.out w2 hW).mono fun e w4 h => ?_
                      exact ⟨(), fun _ _ => rfl, h.1, hW.trans (h.2.mono hW.size)⟩)
                · exact RhoOp.pure rfl (fun r L b w2 hl hR hW => by
                    have h76 : b.eval (.tmp 76) = .bool true := hR.of (j := 4) (by decide) (by kernel_rfl)
                    have h85 : b.eval (.tmp 85) = .bool bb := hR.of (j := 13) (by decide) (by kernel_rfl)
                    simp only [Act.eval, Array.getD_eq_getD_getElem?] at h76 h85
                    show (execOp b.eval _).run _ _ = .ok (.value (.bool bb)) _
                    unfold execOp
                    simp [go_sem, h76, h85]) (fun _ _ _ _ h => h)
                · exact RhoOp.pure rfl (fun r L b w2 hl hR hW => by
                    have h86 : b.eval (.tmp 86) = .bool bb := hR.of (j := 14) (by decide) (by kernel_rfl)
                    simp only [Act.eval, Array.getD_eq_getD_getElem?] at h86
                    show (execOp b.eval _).run _ _ = .ok (.value (.bool bb)) _
                    unfold execOp
                    simp [go_sem, h86]) (fun _ _ _ _ h => h)
              · refine puts_as (ps := [(0, 72, .int .i64 (K : Int)), (1, 73, .slice (some ⟨gL, oL, none⟩) LL cL), (2, 74, .int .i64 (LL : Int)), (3, 75, .bool true), (4, 76, .bool true), (5, 77, .slice (some ⟨gE, oE, none⟩) N cE), (6, 78, .int .i64 (jj : Int)), (7, 79, .pointer (some ⟨gE, oE + jj * 9, none⟩)), (8, 80, .agg (xE).toArray), (9, 81, .slice (some ⟨gL, oL, none⟩) LL cL), (10, 82, .int .i64 (K : Int)), (11, 83, .pointer (some ⟨gL, oL + K * 9, none⟩)), (12, 84, .agg (xL).toArray), (13, 85, .bool bb), (14, 86, .bool bb), (15, 16, .bool bb)]) rfl ?_
                simp only [puts, Act.put, List.setIfInBounds_toArray, List.set_cons_zero, List.set_cons_succ]
                have HB9 := Lib.hid hW9
                clear hW9 HMV HRE HRL
                go_wp2
                go_meet
                case rel => exact ⟨by rw [HBF.out], HB9⟩
            · have hKL2 : ¬ (K : Int) < (LL : Int) := by omega
              have hFm : F m = false := by
                cases h : F m with
                | false => rfl
                | true =>
                  have h1 := HFA.out h
                  have h2 := (List.getElem?_eq_some_iff.1 h1).1
                  rw [HL.out] at h2
                  exact absurd h2 hKL
              have HFN := Lib.hid hFm
              clear hFm
              go_quiet (fail)
              go_wp2
              go_meet
              case rel => exact ⟨by rw [HFN.out], Lib.hid (((Fr.of_below (Below.refl wr.heap.size wr) (fun _ => False)).drewN _).to_below (Nat.le_refl _) fun _ _ h => h)⟩
          case rest =>
            obtain ⟨hsv, HB9⟩ := hcut
            subst hsv
            have z0 := cell_up HXP.out HB9.out
            have z1 := cell_up HY0.out HB9.out
            obtain ⟨q0, hq0⟩ : ∃ q, m0.proc = q := ⟨_, rfl⟩
            obtain ⟨qm, hqm⟩ : ∃ q, m.proc = q := ⟨_, rfl⟩
            rw [hq0] at z1
            rw [hqm] at z0
            have hFm := HFF.out m
            rw [hqm] at hFm
            have hp0 := HM0.out
            rw [hq0] at hp0
            have HP0' := Lib.hid hp0
            obtain ⟨tk, htk⟩ : ∃ b, F m = b := ⟨_, rfl⟩
            have HTK := Lib.hid htk
            have HKT : Hid (((ms.take (jj + 1)).filter F).length = K + if tk = true then 1 else 0) := by
              show _ = _
              rw [HKS.out, htk]
            rw [htk] at hFm ⊢
            have HFM := Lib.hid hFm
            have HQM := Lib.hid hqm
            clear hFm hp0 htk hq0 hqm
            cases tk with
            | false =>
              cases b with
              | false => exact absurd HFM.out (by simp)
              | true =>
                have hq : q0 = p := HP0'.out rfl
                have hqp : ¬ qm = p := by
                  have := HFM.out
                  simpa using this
                subst hq
                have d1 : (qm == q0) = false := by simpa using hqp
                clear hqp
                go_wp2
                go_quiet (fail)
                have HB10 : Hid (Below wr.heap.size wr (wc.drewN nq)) := below_drewN HB9.out (Nat.le_refl _) nq
                obtain ⟨wd, hwd⟩ : ∃ W, wc.drewN nq = W := ⟨_, rfl⟩
                rw [hwd] at HB10 ⊢
                clear hwd z0 z1
                go_wp2
                go_quiet (fail)
                have HB11 : Hid (Below wc0.heap.size wc0 (wd.drewN nq)) := HX.out.trans ((below_drewN HB10.out (Nat.le_refl _) nq).mono HX.out.size)
                go_wp2
                refine ⟨⟨jj + 1, by rw [HKT.out]; simp, by simp, by omega, HB11⟩, ?_⟩
                simp [intOf]
                omega
            | true =>
              cases b with
              | false =>
                go_wp2
                go_quiet (fail)
                have HB10 : Hid (Below wr.heap.size wr (wc.drewN nq)) := below_drewN HB9.out (Nat.le_refl _) nq
                obtain ⟨wd, hwd⟩ : ∃ W, wc.drewN nq = W := ⟨_, rfl⟩
                rw [hwd] at HB10 ⊢
                clear hwd z0 z1
                go_wp2
                go_quiet (fail)
                have HB11 : Hid (Below wc0.heap.size wc0 (wd.drewN nq)) := HX.out.trans ((below_drewN HB10.out (Nat.le_refl _) nq).mono HX.out.size)
                go_wp2
                refine ⟨⟨jj + 1, by rw [HKT.out]; simp, by simp, by omega, HB11⟩, ?_⟩
                simp [intOf]
                omega
              | true =>
                have hq : q0 = p := HP0'.out rfl
                have hqp : qm = p := by
                  have := HFM.out
                  simpa using this
                subst hq
                subst hqp
                have d1 : (qm == qm) = true := by simp
                go_wp2
                go_quiet (fail)
                have HB10 : Hid (Below wr.heap.size wr (wc.drewN nq)) := below_drewN HB9.out (Nat.le_refl _) nq
                obtain ⟨wd, hwd⟩ : ∃ W, wc.drewN nq = W := ⟨_, rfl⟩
                rw [hwd] at HB10 ⊢
                clear hwd z0 z1
                go_wp2
                have hfine := HFI.out (by simp) HQM.out
                obtain ⟨hb0, ht0, hl0⟩ := hfine
                have HXB : Hid (∀ V, Below wr.heap.size wr V → V.cell? ⟨gE, oE + jj * 9 + 5, none⟩ = some (.int .i64 0)) := fun V hV => by rw [← hb0]; exact cell_up HXBC.out hV
                obtain ⟨mt, hmt⟩ : ∃ z, m.turns = z := ⟨_, rfl⟩
                obtain ⟨md, hmd⟩ : ∃ z, m.dst = z := ⟨_, rfl⟩
                have HXT : Hid (∀ V, Below wr.heap.size wr V → V.cell? ⟨gE, oE + jj * 9 + 8, none⟩ = some (.int .u64 (mt : Int))) := fun V hV => by rw [← hmt]; exact cell_up HXTC.out hV
                have HXD : Hid (∀ V, Below wr.heap.size wr V → V.cell? ⟨gE, oE + jj * 9 + 4, none⟩ = some (.string md)) := fun V hV => by rw [← hmd]; exact cell_up HXDC.out hV
                have hT0 : bits BinOp.and IntKind.u64 (mt : Int) (vis : Int) = 0 := by
                  rw [bits_and_u64_nat _ _ (by rw [← hmt]; exact HMI.out.2.2) HV.out, ← hmt, ht0]; rfl
                have hl1 := look_lt HOK.out s
                have hl2 := look_lt HOK.out md
                have HBR : Hid (Below w2.heap.size w2 wr) := HBB.out.trans (HX.out.mono HBB.out.size)
                have hk1 : ∀ V, Below wr.heap.size wr V → Calls Try.prog I.fL #[I.dyn, .string s] V (fun e V' => Below V.heap.size V V' ∧ e = .returned (sight (tlook t s))) := fun V hV => HLK.out V s (HBR.out.trans (hV.mono HBR.out.size)) HSS.out
                have hk2 : ∀ V, Below wr.heap.size wr V → Calls Try.prog I.fL #[I.dyn, .string md] V (fun e V' => Below V.heap.size V V' ∧ e = .returned (sight (tlook t md))) := fun V hV => HLK.out V md (HBR.out.trans (hV.mono HBR.out.size)) (by rw [← hmd]; exact HMI.out.1)
                rw [hmd] at hl0
                obtain ⟨x1, hx1⟩ : ∃ x, tlook t s = x := ⟨_, rfl⟩
                obtain ⟨x2, hx2⟩ : ∃ x, tlook t md = x := ⟨_, rfl⟩
                rw [hx1] at hl0 hl1 hk1
                rw [hx2] at hl0 hl2 hk2
                obtain ⟨_, p1, u1, u2, u3⟩ := x1
                obtain ⟨_, p2, v1, v2, v3⟩ := x2
                dsimp only at hl0 hl1 hl2
                have HL1 : Hid (∀ V, Below wr.heap.size wr V → Calls Try.prog I.fL #[I.dyn, .string s] V (fun e V' => Below V.heap.size V V' ∧ e = .returned (.agg #[.int .u64 (p1 : Int), .bool u1, .bool u2, .bool u3]))) := hk1
                have HL2 : Hid (∀ V, Below wr.heap.size wr V → Calls Try.prog I.fL #[I.dyn, .string md] V (fun e V' => Below V.heap.size V V' ∧ e = .returned (.agg #[.int .u64 (p2 : Int), .bool v1, .bool v2, .bool v3]))) := hk2
                have hxl : p1 ^^^ p2 < 18446744073709551616 := Nat.xor_lt_two_pow (n := 64) hl1 hl2
                obtain ⟨pz, hpz⟩ : ∃ z : Int, ((p1 ^^^ p2 : Nat) : Int) = z := ⟨_, rfl⟩
                have hPX : bits BinOp.xor IntKind.u64 (p1 : Int) (p2 : Int) = pz := by rw [bits_xor_u64_nat _ _ hl1 hl2, hpz]
                have hP0 : bits BinOp.and IntKind.u64 pz (vis : Int) = 0 := by rw [← hpz, bits_and_u64_nat _ _ hxl HV.out, hl0]; rfl
                clear hb0 ht0 hl0 hl1 hl2 hk1 hk2 hx1 hx2 hxl hpz hmt hmd HBR
                refine wp_region_rhoG (fun (r : Unit) j => ([(.bool true), (.bool true), (.bool true), (.bool true), (.bool true), (.slice (some ⟨gE, oE, none⟩) N cE), (.int .i64 (jj : Int)), (.pointer (some ⟨gE, oE + jj * 9, none⟩)), (.pointer (some ⟨gE, oE + jj * 9 + 5, none⟩)), (.int .i64 0), (.bool false), (.bool false), (.slice (some ⟨gE, oE, none⟩) N cE), (.int .i64 (jj : Int)), (.pointer (some ⟨gE, oE + jj * 9, none⟩)), (.pointer (some ⟨gE, oE + jj * 9 + 8, none⟩)), (.int .u64 (mt : Int)), (.int .u64 (vis : Int)), (.int .u64 0), (.bool false), (.bool false), (.bool false), (.iface I.tid I.dyn), (.string s), (.agg #[.int .u64 (p1 : Int), .bool u1, .bool u2, .bool u3]), (.int .u64 (p1 : Int)), (.iface I.tid I.dyn), (.slice (some ⟨gE, oE, none⟩) N cE), (.int .i64 (jj : Int)), (.pointer (some ⟨gE, oE + jj * 9, none⟩)), (.pointer (some ⟨gE, oE + jj * 9 + 4, none⟩)), (.string md), (.func (.method "Look") #[.iface I.tid I.dyn] #[]), (.func (.method "Look") #[.iface I.tid I.dyn] #[]), (.iface I.tid I.dyn), (.agg #[.int .u64 (p2 : Int), .bool v1, .bool v2, .bool v3]), (.int .u64 (p2 : Int)), (.int .u64 pz), (.int .u64 (vis : Int)), (.int .u64 0), (.bool false), (.bool false), (.bool false)] : List Value).getD j undef) (fun _ L w2 => Below wr.heap.size wr w2) [(0, 105), (1, 106), (2, 107), (3, 108), (4, 109), (5, 110), (6, 111), (7, 112), (8, 113), (9, 114), (10, 115), (11, 116), (12, 117), (13, 118), (14, 119), (15, 120), (16, 121), (17, 122), (18, 123), (19, 124), (20, 125), (21, 126), (22, 127), (23, 128), (24, 129), (25, 130), (26, 131), (27, 132), (28, 133), (29, 134), (30, 135), (31, 136), (32, 137), (33, 138), (34, 139), (35, 140), (36, 141), (37, 142), (38, 143), (39, 144), (40, 145), (41, 146), (42, 147)] 181 rfl (by kernel_rfl) (by kernel_rfl) [(1, true), (4, true), (11, false), (21, false)] (by kernel_rfl) (fun r p hp => by simp only [List.mem_cons, List.not_mem_nil, or_false] at hp; rcases hp with rfl | rfl | rfl | rfl <;> rfl) () HB10.out.drew (fun i hi => ?_) (fun r w9 hW9 => ?_)
                · have hi2 : i < 43 := hi
                  clear hi
                  have hi3 : i = 0 ∨ i = 1 ∨ i = 2 ∨ i = 3 ∨ i = 4 ∨ i = 5 ∨ i = 6 ∨ i = 7 ∨ i = 8 ∨ i = 9 ∨ i = 10 ∨ i = 11 ∨ i = 12 ∨ i = 13 ∨ i = 14 ∨ i = 15 ∨ i = 16 ∨ i = 17 ∨ i = 18 ∨ i = 19 ∨ i = 20 ∨ i = 21 ∨ i = 22 ∨ i = 23 ∨ i = 24 ∨ i = 25 ∨ i = 26 ∨ i = 27 ∨ i = 28 ∨ i = 29 ∨ i = 30 ∨ i = 31 ∨ i = 32 ∨ i = 33 ∨ i = 34 ∨ i = 35 ∨ i = 36 ∨ i = 37 ∨ i = 38 ∨ i = 39 ∨ i = 40 ∨ i = 41 ∨ i = 42 := by omega
                  clear hi2
                  rcases hi3 with rfl | rfl | rfl | rfl | rfl | rfl | rfl | rfl | rfl | rfl | rfl | rfl | rfl | rfl | rfl | rfl | rfl | rfl | rfl | rfl | rfl | rfl | rfl | rfl | rfl | rfl | rfl | rfl | rfl | rfl | rfl | rfl | rfl | rfl | rfl | rfl | rfl | rfl | rfl | rfl | rfl | rfl | rfl
                  · exact RhoOp.pure rfl (fun r L b w2 hl hR hW => by
                      have h13 : b.eval (.tmp 13) = .bool true := (hR.old (by decide) (by kernel_rfl)).trans rfl
                      simp only [Act.eval, Array.getD_eq_getD_getElem?] at h13
                      show (execOp b.eval _).run _ _ = .ok (.value (.bool true)) _
                      unfold execOp
                      simp [go_sem, h13]) (fun _ _ _ _ h => h)
                  · exact RhoOp.pure rfl (fun r L b w2 hl hR hW => by
                      have h105 : b.eval (.tmp 105) = .bool true := hR.of (j := 0) (by decide) (by kernel_rfl)
                      simp only [Act.eval, Array.getD_eq_getD_getElem?] at h105
                      show (execOp b.eval _).run _ _ = .ok (.value (.bool true)) _
                      unfold execOp
                      simp [go_sem, h105]) (fun _ _ _ _ h => h)
                  · exact RhoOp.pure rfl (fun r L b w2 hl hR hW => by
                      have h16 : b.eval (.tmp 16) = .bool true := (hR.old (by decide) (by kernel_rfl)).trans rfl
                      simp only [Act.eval, Array.getD_eq_getD_getElem?] at h16
                      show (execOp b.eval _).run _ _ = .ok (.value (.bool true)) _
                      unfold execOp
                      simp [go_sem, h16]) (fun _ _ _ _ h => h)
                  · exact RhoOp.pure rfl (fun r L b w2 hl hR hW => by
                      have h106 : b.eval (.tmp 106) = .bool true := hR.of (j := 1) (by decide) (by kernel_rfl)
                      have h107 : b.eval (.tmp 107) = .bool true := hR.of (j := 2) (by decide) (by kernel_rfl)
                      simp only [Act.eval, Array.getD_eq_getD_getElem?] at h106 h107
                      show (execOp b.eval _).run _ _ = .ok (.value (.bool true)) _
                      unfold execOp
                      simp [go_sem, h106, h107]) (fun _ _ _ _ h => h)
                  · exact RhoOp.pure rfl (fun r L b w2 hl hR hW => by
                      have h108 : b.eval (.tmp 108) = .bool true := hR.of (j := 3) (by decide) (by kernel_rfl)
                      simp only [Act.eval, Array.getD_eq_getD_getElem?] at h108
                      show (execOp b.eval _).run _ _ = .ok (.value (.bool true)) _
                      unfold execOp
                      simp [go_sem, h108]) (fun _ _ _ _ h => h)
                  · exact RhoOp.pure rfl (fun r L b w2 hl hR hW => by
                      have h11 : b.eval (.tmp 11) = .slice (some ⟨gE, oE, none⟩) N cE := (hR.old (by decide) (by kernel_rfl)).trans rfl
                      simp only [Act.eval, Array.getD_eq_getD_getElem?] at h11
                      show (execOp b.eval _).run _ _ = .ok (.value (.slice (some ⟨gE, oE, none⟩) N cE)) _
                      unfold execOp
                      simp [go_sem, h11]) (fun _ _ _ _ h => h)
                  · exact RhoOp.pure rfl (fun r L b w2 hl hR hW => by
                      have h15 : b.eval (.tmp 15) = .int .i64 (jj : Int) := (hR.old (by decide) (by kernel_rfl)).trans rfl
                      simp only [Act.eval, Array.getD_eq_getD_getElem?] at h15
                      show (execOp b.eval _).run _ _ = .ok (.value (.int .i64 (jj : Int))) _
                      unfold execOp
                      simp [go_sem, h15]) (fun _ _ _ _ h => h)
                  · exact RhoOp.pure rfl (fun r L b w2 hl hR hW => by
                      have h110 : b.eval (.tmp 110) = .slice (some ⟨gE, oE, none⟩) N cE := hR.of (j := 5) (by decide) (by kernel_rfl)
                      have h111 : b.eval (.tmp 111) = .int .i64 (jj : Int) := hR.of (j := 6) (by decide) (by kernel_rfl)
                      simp only [Act.eval, Array.getD_eq_getD_getElem?] at h110 h111
                      show (execOp b.eval _).run _ _ = .ok (.value (.pointer (some ⟨gE, oE + jj * 9, none⟩))) _
                      unfold execOp
                      simp [go_sem, h110, h111, hj0j, hj2j, hwjj]) (fun _ _ _ _ h => h)
                  · exact RhoOp.pure rfl (fun r L b w2 hl hR hW => by
                      have h112 : b.eval (.tmp 112) = .pointer (some ⟨gE, oE + jj * 9, none⟩) := hR.of (j := 7) (by decide) (by kernel_rfl)
                      simp only [Act.eval, Array.getD_eq_getD_getElem?] at h112
                      show (execOp b.eval _).run _ _ = .ok (.value (.pointer (some ⟨gE, oE + jj * 9 + 5, none⟩))) _
                      unfold execOp
                      simp [go_sem, h112]) (fun _ _ _ _ h => h)
                  · exact RhoOp.pure rfl (fun r L b w2 hl hR hW => by
                      have e := HXB.out w2 hW
                      have h113 : b.eval (.tmp 113) = .pointer (some ⟨gE, oE + jj * 9 + 5, none⟩) := hR.of (j := 8) (by decide) (by kernel_rfl)
                      simp only [Act.eval, Array.getD_eq_getD_getElem?] at h113
                      show (execOp b.eval _).run _ _ = .ok (.value (.int .i64 0)) _
                      unfold execOp
                      simp [go_sem, h113, e]) (fun _ _ _ _ h => h)
                  · exact RhoOp.pure rfl (fun r L b w2 hl hR hW => by
                      have h114 : b.eval (.tmp 114) = .int .i64 0 := hR.of (j := 9) (by decide) (by kernel_rfl)
                      simp only [Act.eval, Array.getD_eq_getD_getElem?] at h114
                      show (execOp b.eval _).run _ _ = .ok (.value (.bool false)) _
                      unfold execOp
                      simp [go_sem, h114]) (fun _ _ _ _ h => h)
                  · exact RhoOp.pure rfl (fun r L b w2 hl hR hW => by
                      have h115 : b.eval (.tmp 115) = .bool false := hR.of (j := 10) (by decide) (by kernel_rfl)
                      simp only [Act.eval, Array.getD_eq_getD_getElem?] at h115
                      show (execOp b.eval _).run _ _ = .ok (.value (.bool false)) _
                      unfold execOp
                      simp [go_sem, h115]) (fun _ _ _ _ h => h)
                  · exact RhoOp.pure rfl (fun r L b w2 hl hR hW => by
                      have h11 : b.eval (.tmp 11) = .slice (some ⟨gE, oE, none⟩) N cE := (hR.old (by decide) (by kernel_rfl)).trans rfl
                      simp only [Act.eval, Array.getD_eq_getD_getElem?] at h11
                      show (execOp b.eval _).run _ _ = .ok (.value (.slice (some ⟨gE, oE, none⟩) N cE)) _
                      unfold execOp
                      simp [go_sem, h11]) (fun _ _ _ _ h => h)
                  · exact RhoOp.pure rfl (fun r L b w2 hl hR hW => by
                      have h15 : b.eval (.tmp 15) = .int .i64 (jj : Int) := (hR.old (by decide) (by kernel_rfl)).trans rfl
                      simp only [Act.eval, Array.getD_eq_getD_getElem?] at h15
                      show (execOp b.eval _).run _ _ = .ok (.value (.int .i64 (jj : Int))) _
                      unfold execOp
                      simp [go_sem, h15]) (fun _ _ _ _ h => h)
                  · exact RhoOp.pure rfl (fun r L b w2 hl hR hW => by
                      have h117 : b.eval (.tmp 117) = .slice (some ⟨gE, oE, none⟩) N cE := hR.of (j := 12) (by decide) (by kernel_rfl)
                      have h118 : b.eval (.tmp 118) = .int .i64 (jj : Int) := hR.of (j := 13) (by decide) (by kernel_rfl)
                      simp only [Act.eval, Array.getD_eq_getD_getElem?] at h117 h118
                      show (execOp b.eval _).run _ _ = .ok (.value (.pointer (some ⟨gE, oE + jj * 9, none⟩))) _
                      unfold execOp
                      simp [go_sem, h117, h118, hj0j, hj2j, hwjj]) (fun _ _ _ _ h => h)
                  · exact RhoOp.pure rfl (fun r L b w2 hl hR hW => by
                      have h119 : b.eval (.tmp 119) = .pointer (some ⟨gE, oE + jj * 9, none⟩) := hR.of (j := 14) (by decide) (by kernel_rfl)
                      simp only [Act.eval, Array.getD_eq_getD_getElem?] at h119
                      show (execOp b.eval _).run _ _ = .ok (.value (.pointer (some ⟨gE, oE + jj * 9 + 8, none⟩))) _
                      unfold execOp
                      simp [go_sem, h119]) (fun _ _ _ _ h => h)
                  · exact RhoOp.pure rfl (fun r L b w2 hl hR hW => by
                      have e := HXT.out w2 hW
                      have h120 : b.eval (.tmp 120) = .pointer (some ⟨gE, oE + jj * 9 + 8, none⟩) := hR.of (j := 15) (by decide) (by kernel_rfl)
                      simp only [Act.eval, Array.getD_eq_getD_getElem?] at h120
                      show (execOp b.eval _).run _ _ = .ok (.value (.int .u64 (mt : Int))) _
                      unfold execOp
                      simp [go_sem, h120, e]) (fun _ _ _ _ h => h)
                  · exact RhoOp.pure rfl (fun r L b w2 hl hR hW => by
                      have h1 : b.eval (.tmp 1) = .int .u64 (vis : Int) := (hR.old (by decide) (by kernel_rfl)).trans rfl
                      simp only [Act.eval, Array.getD_eq_getD_getElem?] at h1
                      show (execOp b.eval _).run _ _ = .ok (.value (.int .u64 (vis : Int))) _
                      unfold execOp
                      simp [go_sem, h1]) (fun _ _ _ _ h => h)
                  · exact RhoOp.pure rfl (fun r L b w2 hl hR hW => by
                      have h121 : b.eval (.tmp 121) = .int .u64 (mt : Int) := hR.of (j := 16) (by decide) (by kernel_rfl)
                      have h122 : b.eval (.tmp 122) = .int .u64 (vis : Int) := hR.of (j := 17) (by decide) (by kernel_rfl)
                      simp only [Act.eval, Array.getD_eq_getD_getElem?] at h121 h122
                      show (execOp b.eval _).run _ _ = .ok (.value (.int .u64 0)) _
                      unfold execOp
                      simp [go_sem, h121, h122, hT0]) (fun _ _ _ _ h => h)
                  · exact RhoOp.pure rfl (fun r L b w2 hl hR hW => by
                      have h123 : b.eval (.tmp 123) = .int .u64 0 := hR.of (j := 18) (by decide) (by kernel_rfl)
                      simp only [Act.eval, Array.getD_eq_getD_getElem?] at h123
                      show (execOp b.eval _).run _ _ = .ok (.value (.bool false)) _
                      unfold execOp
                      simp [go_sem, h123]) (fun _ _ _ _ h => h)
                  · exact RhoOp.pure rfl (fun r L b w2 hl hR hW => by
                      have h116 : b.eval (.tmp 116) = .bool false := hR.of (j := 11) (by decide) (by kernel_rfl)
                      have h124 : b.eval (.tmp 124) = .bool false := hR.of (j := 19) (by decide) (by kernel_rfl)
                      simp only [Act.eval, Array.getD_eq_getD_getElem?] at h116 h124
                      show (execOp b.eval _).run _ _ = .ok (.value (.bool false)) _
                      unfold execOp
                      simp [go_sem, h116, h124]) (fun _ _ _ _ h => h)
                  · exact RhoOp.pure rfl (fun r L b w2 hl hR hW => by
                      have h125 : b.eval (.tmp 125) = .bool false := hR.of (j := 20) (by decide) (by kernel_rfl)
                      simp only [Act.eval, Array.getD_eq_getD_getElem?] at h125
                      show (execOp b.eval _).run _ _ = .ok (.value (.bool false)) _
                      unfold execOp
                      simp [go_sem, h125]) (fun _ _ _ _ h => h)
                  · exact RhoOp.pure rfl (fun r L b w2 hl hR hW => by
                      have h7 : b.eval (.tmp 7) = .iface I.tid I.dyn := (hR.old (by decide) (by kernel_rfl)).trans rfl
                      simp only [Act.eval, Array.getD_eq_getD_getElem?] at h7
                      show (execOp b.eval _).run _ _ = .ok (.value (.iface I.tid I.dyn)) _
                      unfold execOp
                      simp [go_sem, h7]) (fun _ _ _ _ h => h)
                  · exact RhoOp.pure rfl (fun r L b w2 hl hR hW => by
                      have h9 : b.eval (.tmp 9) = .string s := (hR.old (by decide) (by kernel_rfl)).trans rfl
                      simp only [Act.eval, Array.getD_eq_getD_getElem?] at h9
                      show (execOp b.eval _).run _ _ = .ok (.value (.string s)) _
                      unfold execOp
                      simp [go_sem, h9]) (fun _ _ _ _ h => h)
                  · exact RhoOp.call (f := I.fL) rfl (fun r L b w2 hs hl hR hW => by
                      have h127 : b.eval (.tmp 127) = .iface I.tid I.dyn := hR.of (j := 22) (by decide) (by kernel_rfl)
                      have h128 : b.eval (.tmp 128) = .string s := hR.of (j := 23) (by decide) (by kernel_rfl)
                      simp only [Act.eval, Array.getD_eq_getD_getElem?] at h127 h128
                      refine ⟨#[I.dyn, .string s], ?_, ?_⟩
                      · unfold execOp
                        simp [go_sem, h127, h128, HmL.out, HeL.out]
                      · refine (HL1.out w2 hW).mono fun e w4 h => ?_
                        exact ⟨(), fun _ _ => rfl, h.2, hW.trans (h.1.mono hW.size)⟩)
                  · exact RhoOp.pure rfl (fun r L b w2 hl hR hW => by
                      have h129 : b.eval (.tmp 129) = .agg #[.int .u64 (p1 : Int), .bool u1, .bool u2, .bool u3] := hR.of (j := 24) (by decide) (by kernel_rfl)
                      simp only [Act.eval, Array.getD_eq_getD_getElem?] at h129
                      show (execOp b.eval _).run _ _ = .ok (.value (.int .u64 (p1 : Int))) _
                      unfold execOp
                      simp [go_sem, h129, field_sight]) (fun _ _ _ _ h => h)
                  · exact RhoOp.pure rfl (fun r L b w2 hl hR hW => by
                      have h7 : b.eval (.tmp 7) = .iface I.tid I.dyn := (hR.old (by decide) (by kernel_rfl)).trans rfl
                      simp only [Act.eval, Array.getD_eq_getD_getElem?] at h7
                      show (execOp b.eval _).run _ _ = .ok (.value (.iface I.tid I.dyn)) _
                      unfold execOp
                      simp [go_sem, h7]) (fun _ _ _ _ h => h)
                  · exact RhoOp.pure rfl (fun r L b w2 hl hR hW => by
                      have h11 : b.eval (.tmp 11) = .slice (some ⟨gE, oE, none⟩) N cE := (hR.old (by decide) (by kernel_rfl)).trans rfl
                      simp only [Act.eval, Array.getD_eq_getD_getElem?] at h11
                      show (execOp b.eval _).run _ _ = .ok (.value (.slice (some ⟨gE, oE, none⟩) N cE)) _
                      unfold execOp
                      simp [go_sem, h11]) (fun _ _ _ _ h => h)
                  · exact RhoOp.pure rfl (fun r L b w2 hl hR hW => by
                      have h15 : b.eval (.tmp 15) = .int .i64 (jj : Int) := (hR.old (by decide) (by kernel_rfl)).trans rfl
                      simp only [Act.eval, Array.getD_eq_getD_getElem?] at h15
                      show (execOp b.eval _).run _ _ = .ok (.value (.int .i64 (jj : Int))) _
                      unfold execOp
                      simp [go_sem, h15]) (fun _ _ _ _ h => h)
                  · exact RhoOp.pure rfl (fun r L b w2 hl hR hW => by
                      have h132 : b.eval (.tmp 132) = .slice (some ⟨gE, oE, none⟩) N cE := hR.of (j := 27) (by decide) (by kernel_rfl)
                      have h133 : b.eval (.tmp 133) = .int .i64 (jj : Int) := hR.of (j := 28) (by decide) (by kernel_rfl)
                      simp only [Act.eval, Array.getD_eq_getD_getElem?] at h132 h133
                      show (execOp b.eval _).run _ _ = .ok (.value (.pointer (some ⟨gE, oE + jj * 9, none⟩))) _
                      unfold execOp
                      simp [go_sem, h132, h133, hj0j, hj2j, hwjj]) (fun _ _ _ _ h => h)
                  · exact RhoOp.pure rfl (fun r L b w2 hl hR hW => by
                      have h134 : b.eval (.tmp 134) = .pointer (some ⟨gE, oE + jj * 9, none⟩) := hR.of (j := 29) (by decide) (by kernel_rfl)
                      simp only [Act.eval, Array.getD_eq_getD_getElem?] at h134
                      show (execOp b.eval _).run _ _ = .ok (.value (.pointer (some ⟨gE, oE + jj * 9 + 4, none⟩))) _
                      unfold execOp
                      simp [go_sem, h134]) (fun _ _ _ _ h => h)
                  · exact RhoOp.pure rfl (fun r L b w2 hl hR hW => by
                      have e := HXD.out w2 hW
                      have h135 : b.eval (.tmp 135) = .pointer (some ⟨gE, oE + jj * 9 + 4, none⟩) := hR.of (j := 30) (by decide) (by kernel_rfl)
                      simp only [Act.eval, Array.getD_eq_getD_getElem?] at h135
                      show (execOp b.eval _).run _ _ = .ok (.value (.string md)) _
                      unfold execOp
                      simp [go_sem, h135, e]) (fun _ _ _ _ h => h)
                  · exact RhoOp.pure rfl (fun r L b w2 hl hR hW => by
                      have h131 : b.eval (.tmp 131) = .iface I.tid I.dyn := hR.of (j := 26) (by decide) (by kernel_rfl)
                      simp only [Act.eval, Array.getD_eq_getD_getElem?] at h131
                      show (execOp b.eval _).run _ _ = .ok (.value (.func (.method "Look") #[.iface I.tid I.dyn] #[])) _
                      unfold execOp
                      simp [go_sem, h131]) (fun _ _ _ _ h => h)
                  · exact RhoOp.pure rfl (fun r L b w2 hl hR hW => by
                      have e := HnL.out w2
                      have h137 : b.eval (.tmp 137) = .func (.method "Look") #[.iface I.tid I.dyn] #[] := hR.of (j := 32) (by decide) (by kernel_rfl)
                      simp only [Act.eval, Array.getD_eq_getD_getElem?] at h137
                      show (execOp b.eval _).run _ _ = .ok (.value (.func (.method "Look") #[.iface I.tid I.dyn] #[])) _
                      unfold execOp
                      simp [go_sem, h137, e]) (fun _ _ _ _ h => h)
                  · exact RhoOp.pure rfl (fun r L b w2 hl hR hW => by
                      have h131 : b.eval (.tmp 131) = .iface I.tid I.dyn := hR.of (j := 26) (by decide) (by kernel_rfl)
                      simp only [Act.eval, Array.getD_eq_getD_getElem?] at h131
                      show (execOp b.eval _).run _ _ = .ok (.value (.iface I.tid I.dyn)) _
                      unfold execOp
                      simp [go_sem, h131]) (fun _ _ _ _ h => h)
                  · exact RhoOp.call (f := I.fL) rfl (fun r L b w2 hs hl hR hW => by
                      have h139 : b.eval (.tmp 139) = .iface I.tid I.dyn := hR.of (j := 34) (by decide) (by kernel_rfl)
                      have h136 : b.eval (.tmp 136) = .string md := hR.of (j := 31) (by decide) (by kernel_rfl)
                      simp only [Act.eval, Array.getD_eq_getD_getElem?] at h139 h136
                      refine ⟨#[I.dyn, .string md], ?_, ?_⟩
                      · unfold execOp
                        simp [go_sem, h139, h136, HmL.out, HeL.out]
                      · refine (HL2.out w2 hW).mono fun e w4 h => ?_
                        exact ⟨(), fun _ _ => rfl, h.2, hW.trans (h.1.mono hW.size)⟩)
                  · exact RhoOp.pure rfl (fun r L b w2 hl hR hW => by
                      have h140 : b.eval (.tmp 140) = .agg #[.int .u64 (p2 : Int), .bool v1, .bool v2, .bool v3] := hR.of (j := 35) (by decide) (by kernel_rfl)
                      simp only [Act.eval, Array.getD_eq_getD_getElem?] at h140
                      show (execOp b.eval _).run _ _ = .ok (.value (.int .u64 (p2 : Int))) _
                      unfold execOp
                      simp [go_sem, h140, field_sight]) (fun _ _ _ _ h => h)
                  · exact RhoOp.pure rfl (fun r L b w2 hl hR hW => by
                      have h130 : b.eval (.tmp 130) = .int .u64 (p1 : Int) := hR.of (j := 25) (by decide) (by kernel_rfl)
                      have h141 : b.eval (.tmp 141) = .int .u64 (p2 : Int) := hR.of (j := 36) (by decide) (by kernel_rfl)
                      simp only [Act.eval, Array.getD_eq_getD_getElem?] at h130 h141
                      show (execOp b.eval _).run _ _ = .ok (.value (.int .u64 pz)) _
                      unfold execOp
                      simp [go_sem, h130, h141, hPX]) (fun _ _ _ _ h => h)
                  · exact RhoOp.pure rfl (fun r L b w2 hl hR hW => by
                      have h1 : b.eval (.tmp 1) = .int .u64 (vis : Int) := (hR.old (by decide) (by kernel_rfl)).trans rfl
                      simp only [Act.eval, Array.getD_eq_getD_getElem?] at h1
                      show (execOp b.eval _).run _ _ = .ok (.value (.int .u64 (vis : Int))) _
                      unfold execOp
                      simp [go_sem, h1]) (fun _ _ _ _ h => h)
                  · exact RhoOp.pure rfl (fun r L b w2 hl hR hW => by
                      have h142 : b.eval (.tmp 142) = .int .u64 pz := hR.of (j := 37) (by decide) (by kernel_rfl)
                      have h143 : b.eval (.tmp 143) = .int .u64 (vis : Int) := hR.of (j := 38) (by decide) (by kernel_rfl)
                      simp only [Act.eval, Array.getD_eq_getD_getElem?] at h142 h143
                      show (execOp b.eval _).run _ _ = .ok (.value (.int .u64 0)) _
                      unfold execOp
                      simp [go_sem, h142, h143, hP0]) (fun _ _ _ _ h => h)
                  · exact RhoOp.pure rfl (fun r L b w2 hl hR hW => by
                      have h144 : b.eval (.tmp 144) = .int .u64 0 := hR.of (j := 39) (by decide) (by kernel_rfl)
                      simp only [Act.eval, Array.getD_eq_getD_getElem?] at h144
                      show (execOp b.eval _).run _ _ = .ok (.value (.bool false)) _
                      unfold execOp
                      simp [go_sem, h144]) (fun _ _ _ _ h => h)
                  · exact RhoOp.pure rfl (fun r L b w2 hl hR hW => by
                      have h126 : b.eval (.tmp 126) = .bool false := hR.of (j := 21) (by decide) (by kernel_rfl)
                      have h145 : b.eval (.tmp 145) = .bool false := hR.of (j := 40) (by decide) (by kernel_rfl)
                      simp only [Act.eval, Array.getD_eq_getD_getElem?] at h126 h145
                      show (execOp b.eval _).run _ _ = .ok (.value (.bool false)) _
                      unfold execOp
                      simp [go_sem, h126, h145]) (fun _ _ _ _ h => h)
                  · exact RhoOp.pure rfl (fun r L b w2 hl hR hW => by
                      have h109 : b.eval (.tmp 109) = .bool true := hR.of (j := 4) (by decide) (by kernel_rfl)
                      have h146 : b.eval (.tmp 146) = .bool false := hR.of (j := 41) (by decide) (by kernel_rfl)
                      simp only [Act.eval, Array.getD_eq_getD_getElem?] at h109 h146
                      show (execOp b.eval _).run _ _ = .ok (.value (.bool false)) _
                      unfold execOp
                      simp [go_sem, h109, h146]) (fun _ _ _ _ h => h)
                · refine puts_as (ps := [(0, 105, .bool true), (1, 106, .bool true), (2, 107, .bool true), (3, 108, .bool true), (4, 109, .bool true), (5, 110, .slice (some ⟨gE, oE, none⟩) N cE), (6, 111, .int .i64 (jj : Int)), (7, 112, .pointer (some ⟨gE, oE + jj * 9, none⟩)), (8, 113, .pointer (some ⟨gE, oE + jj * 9 + 5, none⟩)), (9, 114, .int .i64 0), (10, 115, .bool false), (11, 116, .bool false), (12, 117, .slice (some ⟨gE, oE, none⟩) N cE), (13, 118, .int .i64 (jj : Int)), (14, 119, .pointer (some ⟨gE, oE + jj * 9, none⟩)), (15, 120, .pointer (some ⟨gE, oE + jj * 9 + 8, none⟩)), (16, 121, .int .u64 (mt : Int)), (17, 122, .int .u64 (vis : Int)), (18, 123, .int .u64 0), (19, 124, .bool false), (20, 125, .bool false), (21, 126, .bool false), (22, 127, .iface I.tid I.dyn), (23, 128, .string s), (24, 129, .agg #[.int .u64 (p1 : Int), .bool u1, .bool u2, .bool u3]), (25, 130, .int .u64 (p1 : Int)), (26, 131, .iface I.tid I.dyn), (27, 132, .slice (some ⟨gE, oE, none⟩) N cE), (28, 133, .int .i64 (jj : Int)), (29, 134, .pointer (some ⟨gE, oE + jj * 9, none⟩)), (30, 135, .pointer (some ⟨gE, oE + jj * 9 + 4, none⟩)), (31, 136, .string md), (32, 137, .func (.method "Look") #[.iface I.tid I.dyn] #[]), (33, 138, .func (.method "Look") #[.iface I.tid I.dyn] #[]), (34, 139, .iface I.tid I.dyn), (35, 140, .agg #[.int .u64 (p2 : Int), .bool v1, .bool v2, .bool v3]), (36, 141, .int .u64 (p2 : Int)), (37, 142, .int .u64 pz), (38, 143, .int .u64 (vis : Int)), (39, 144, .int .u64 0), (40, 145, .bool false), (41, 146, .bool false), (42, 147, .bool false)]) rfl ?_
                  simp only [puts, Act.put, List.setIfInBounds_toArray, List.set_cons_zero, List.set_cons_succ]
                  have HB11 : Hid (Below wc0.heap.size wc0 w9) := HX.out.trans (hW9.mono HX.out.size)
                  clear hW9 HL1 HL2 HXB HXT HXD
                  go_wp2
                  refine ⟨⟨jj + 1, by rw [HKT.out]; simp, by simp, by omega, HB11⟩, ?_⟩
                  simp [intOf]
                  omega
        · obtain rfl : jj = N := by omega
          have hkl : ((ms.take jj).filter F).length = LL := by
            rw [List.take_of_length_le (by rw [HN.out]; exact Nat.le_refl _), ← HEQ.out, HL.out]
          rw [hkl]
          clear hkl
          have dLL : ((LL : Int) != (LL : Int)) = false := by simp
          have HBZ : Hid (Below w2.heap.size w2 wr) := HBB.out.trans (HX.out.mono HBB.out.size)
          have HBW : Hid (Below w.heap.size w wr) := HB2.out.trans (HBZ.out.mono HB2.out.size)
          by_cases hL0 : LL = 0
          · have hLz : ((LL : Int) == 0) = true := by rw [hL0]; rfl
            clear hL0
            go_wp2_with (fail)
            refine (HEND.out wr HBW.out).mono ?_
            rintro e w3 ⟨rfl, hb3⟩
            have HB3 := Lib.hid hb3
            clear hb3
            go_wp2
            go_ret
            exact ⟨rfl, HB3.out⟩
          · have hLz : ((LL : Int) == 0) = false := by rw [Bool.eq_false_iff]; intro h; have h4 := eq_of_beq h; omega
            have hvl := HVL.out.up (Keep.below HX.out)
            obtain ⟨gL, oL, cL', hll⟩ := hvl.ptr HL.out (by omega)
            injection hll with hll _ hll2
            subst hll hll2
            have HVM := Lib.hid hvl
            have yc := HYC.out wr (HBB0.out.trans (HX.out.mono HBB0.out.size))
            have HPK := Lib.hid (pick17 cc LL HCC.out (by omega) (by omega))
            have hLp : 0 < LL := by omega
            clear hvl hL0
            go_wp2_with (fail)
            refine (HPK.out wr).mono ?_
            rintro e w3 ⟨⟨r, hr, rfl⟩, rfl⟩
            have hr0 : (0 : Int) ≤ (r : Int) := by omega
            have hrL : (r : Int) < (LL : Int) := by omega
            have hwr : IntKind.i64.wrap (r : Int) = (r : Int) := by rw [IntKind.wrap_i64]; omega
            obtain ⟨mr, hmr⟩ : ∃ m, l[r]? = some m := ⟨l[r]'(by rw [HL.out]; exact hr), List.getElem?_eq_getElem _⟩
            obtain ⟨_, _, xb, _⟩ := HVM.out.cells r hmr
            obtain ⟨mb, hmb⟩ : ∃ x, mr.bad = x := ⟨_, rfl⟩
            rw [hmb] at xb
            clear hmr hmb
            by_cases hb0 : mb = 0
            · have db : (mb != 0) = false := by simpa using hb0
              clear hb0
              go_wp2_with (fail)
              refine (HPK.out w3).mono ?_
              rintro e w5 ⟨⟨r2, hr2, rfl⟩, rfl⟩
              have hr20 : (0 : Int) ≤ (r2 : Int) := by omega
              have hr2L : (r2 : Int) < (LL : Int) := by omega
              have hwr2 : IntKind.i64.wrap (r2 : Int) = (r2 : Int) := by rw [IntKind.wrap_i64]; omega
              obtain ⟨m2, hm2⟩ : ∃ m, l[r2]? = some m := ⟨l[r2]'(by rw [HL.out]; exact hr2), List.getElem?_eq_getElem _⟩
              obtain ⟨_, xd, _, _⟩ := HVM.out.cells r2 hm2
              have hlm : m2 ∈ ms := by
                have h2 := List.mem_of_getElem? hm2
                rw [HEQ.out] at h2
                exact (List.mem_filter.1 h2).1
              have hds := (HMM.out m2 hlm).1
              obtain ⟨md, hmd⟩ : ∃ x, m2.dst = x := ⟨_, rfl⟩
              rw [hmd] at xd hds
              have HDS2 := Lib.hid hds
              clear hm2 hmd hlm hds xb
              go_wp2
              refine ⟨⟨i + 1, md, by simp, by simp, by omega, by omega, HDS2, HBZ⟩, ?_⟩
              simp [intOf]
              omega
            · have db : (mb != 0) = true := by simpa using hb0
              clear hb0
              go_wp2_with (fail)
              refine (HEND.out w3 HBW.out).mono ?_
              rintro e w4 ⟨rfl, hb3⟩
              have HB3 := Lib.hid hb3
              clear hb3
              go_wp2
              go_ret
              exact ⟨rfl, HB3.out⟩
end Go.Proofs.Ytcopoaaofjeklaa.G
