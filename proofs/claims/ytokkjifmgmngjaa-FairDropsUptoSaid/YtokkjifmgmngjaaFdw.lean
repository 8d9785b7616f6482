/- The walk of FairDrops. (printed by mkfdw.py out of fdw.txt) -/
import Derived.Test.YtokkjifmgmngjaaMg10
import Derived.Test.YtokkjifmgmngjaaMvq
import Derived.Deep.DeepCutAuto
namespace Go.Proofs.Ytokkjifmgmngjaa.G
open Go.RowKit Go.Maps
set_option linter.unusedVariables false
set_option linter.unusedSimpArgs false

set_option maxHeartbeats 1000000 in
theorem pick18 (c : Int) (n : Nat) (h : -9223372036854775808 ≤ c ∧ c ≤ 9223372036854775807) (h0 : 0 < n) (hn : n ≤ 2000000) : ∃ r : Nat, r < n ∧ ∀ w, Calls Try.prog 5 #[.int .i64 c, .int .i64 (n : Int)] w (fun e w' => e = .returned (.int .i64 (r : Int)) ∧ w' = w) := by
  have d0 : ((n : Int) == 0) = false := by rw [Bool.eq_false_iff]; intro h3; have h4 := eq_of_beq h3; omega
  have d1 : ((n : Int) == -1) = false := by rw [Bool.eq_false_iff]; intro h3; have h4 := eq_of_beq h3; omega
  have hz : ¬ (n : Int) = 0 := by omega
  have hz1 : ¬ (n : Int) = -1 := by omega
  have key : ∀ x : Int, 0 ≤ x → ∃ r : Nat, r < n ∧ x.tmod (n : Int) = (r : Int) := fun x hx => by
    have hm : x.tmod (n : Int) = x % (n : Int) := Int.tmod_eq_emod_of_nonneg hx
    have h1 := Int.emod_nonneg x hz
    have h2 := Int.emod_lt_of_pos x (show (0 : Int) < (n : Int) by omega)
    exact ⟨(x % (n : Int)).toNat, by omega, by rw [hm, Int.toNat_of_nonneg h1]⟩
  by_cases hc : c < 0
  · have hw1 : IntKind.i64.wrap (c + 1) = c + 1 := by rw [IntKind.wrap_i64]; omega
    have hw2 : IntKind.i64.wrap (-(c + 1)) = -(c + 1) := by rw [IntKind.wrap_i64]; omega
    obtain ⟨r, hr, he⟩ := key (-(c + 1)) (by omega)
    have hw3 : IntKind.i64.wrap ((-(c + 1)).tmod (n : Int)) = (r : Int) := by rw [he, IntKind.wrap_i64]; omega
    have HE := Lib.hid he
    refine ⟨r, hr, fun w => ?_⟩
    clear h key he hr h0 hn
    go_enter Try.func5, Try.ntmps5
    go_wp2
    go_ret
    exact ⟨by have h := HE.out; rw [Int.neg_tmod] at h; rw [← h]; rfl, rfl⟩
  · obtain ⟨r, hr, he⟩ := key c (by omega)
    have hc2 : ¬ c < 0 := hc
    have hw3 : IntKind.i64.wrap (c.tmod (n : Int)) = (r : Int) := by rw [he, IntKind.wrap_i64]; omega
    have HE := Lib.hid he
    refine ⟨r, hr, fun w => ?_⟩
    clear h key he hr h0 hn
    go_enter Try.func5, Try.ntmps5
    go_wp2
    go_ret
    exact ⟨by have h := HE.out; rw [Int.tmod_eq_emod_of_nonneg (by omega)] at h; rw [← h]; rfl, rfl⟩
/-- all, up to so many. -/
theorem allUp {I : Ifc} {S : Sys} {w : World} {s : ByteArray} (hS : SysOk I S w) (hs : s.size ≤ 1048576) : Calls Try.prog 9 #[.iface I.tid I.dyn, .string s, .int .i64 10000] w (fun e W' => Below w.heap.size w W' ∧ ∃ v, e = .returned v ∧ MvsV (fun _ => True) W' v ((S.next s).take 10000)) := (allG (most := 10000) hS hs (by omega)).mono fun e W' ⟨h1, vo, k, fo, lo, h2, h3, h4, h5, h6, h7, h8⟩ => by
  have h4 : k ≤ (S.next s).length := h4
  have h5 : k ≤ 10000 := h5
  have hk : (S.next s).take k = (S.next s).take 10000 ∧ k = ((S.next s).take 10000).length := by
    rcases h3 with h3 | h3
    · refine ⟨?_, by rw [List.length_take]; omega⟩
      rw [List.take_of_length_le (by omega), List.take_of_length_le (by omega)]
    · subst h3
      exact ⟨rfl, by rw [List.length_take]; omega⟩
  rw [hk.1] at h8
  rw [hk.2] at h7
  exact ⟨h1, vo, h2, fo, RowL.of_owns h7 fun _ _ => trivial, LsF.mono (fun _ _ => MvF.mono fun _ _ _ => trivial) _ (LsF.imp (Q := fun q => lo ≤ q ∧ vo.ownBlock ≠ some q) (fun _ _ => MvF.of) _ h8)⟩
theorem MvsV.lensN {P : Nat → Prop} {w : World} {v : Value} {l : List PMove} {n : Nat} (h : MvsV P w v l) (hn : l.length = n) : ∃ a c, v = .slice a n c ∧ n ≤ c := by
  obtain ⟨f, hr, _⟩ := h
  subst hn
  obtain ⟨a, c, he, hc, _⟩ := hr.form
  exact ⟨a, c, he, hc⟩
theorem cstate_split {K : Nat} {s x : ByteArray} {k : Nat} (h : cstate K s = some (k, x)) : splitP s = some (k, x) ∧ k ≤ K := by
  unfold cstate at h
  split at h
  · rename_i k y e
    split at h
    · rename_i hk
      injection h with h
      injection h with h1 h2
      subst h1 h2
      exact ⟨e, hk⟩
    · cases h
  · cases h
theorem cmove_form (K k : Nat) (g : Bool) (m : PMove) : ∃ d, cmove K k g m = { m with dst := d } ∧ (m.bad = 0 → d = joinS (cnum K k g m) m.dst) ∧ (m.bad ≠ 0 → d = m.dst) := by
  unfold cmove
  by_cases h : m.bad = 0
  · rw [if_pos h]; exact ⟨_, rfl, fun _ => rfl, fun h2 => absurd h h2⟩
  · rw [if_neg h]; exact ⟨_, rfl, fun h2 => absurd h2 h, fun _ => rfl⟩
theorem below_of_fr {B b : Nat} {w w' : World} (h : Fr (fun q => q = b) w w') (hB : B ≤ b) (hw : B ≤ w.heap.size) : Below B w w' := h.to_below hw fun k hk e => by have e : k = b := e; omega
theorem MvF.mk' {P : Nat → Prop} {w : World} {mp me mw mx mb : Int} {md : ByteArray} {mr mt : List Int} {mu n1 n2 : Nat} {v1 v2 : Value} (h1 : RowL P w 1 v1 n1 (mr.map intV)) (h2 : RowL P w 1 v2 n2 (mt.map intV)) (e1 : mr.length = n1) (e2 : mt.length = n2) : MvF P w ⟨mp, me, mw, mx, md, mb, mr, mt, mu⟩ [.int .i64 mp, .int .i64 me, .int .i64 mw, .int .i64 mx, .string md, .int .i64 mb, v1, v2, .int .u64 (mu : Int)] := by
  subst e1 e2
  exact ⟨_, _, rfl, h1, h2⟩
theorem field_s0 (p : Nat) (u1 u2 u3 : Bool) (w : World) : (Instr.field 41 (.agg #[.int .u64 (p : Int), .bool u1, .bool u2, .bool u3]) 0).run Try.prog w = .ok (.int .u64 (p : Int)) w := by kernel_rfl
theorem field_s1 (p : Nat) (u1 u2 u3 : Bool) (w : World) : (Instr.field 41 (.agg #[.int .u64 (p : Int), .bool u1, .bool u2, .bool u3]) 1).run Try.prog w = .ok (.bool u1) w := by kernel_rfl
theorem field_s2 (p : Nat) (u1 u2 u3 : Bool) (w : World) : (Instr.field 41 (.agg #[.int .u64 (p : Int), .bool u1, .bool u2, .bool u3]) 2).run Try.prog w = .ok (.bool u2) w := by kernel_rfl
attribute [local go_sem] undef_bool
set_option maxRecDepth 100000 in
set_option maxHeartbeats 8000000 in
theorem lawDrops {P P' : Nat → Prop} {w : World} {n : PNet} {v vy : Value} {pr : Int} {wy : List Int} (h : NetV P w v n) (hs : Small n) (hpr : -9223372036854775808 ≤ pr ∧ pr ≤ 9223372036854775807) (hw : RowL P' w 1 vy wy.length (wy.map intV)) (hr : ∀ c ∈ wy, -9223372036854775808 ≤ c ∧ c ≤ 9223372036854775807) :
    Calls Try.prog 3 #[.agg #[v], .int .i64 pr, vy] w (Yes w) := by
  have hvf : ∃ a m c, v = .slice a m c := by obtain ⟨f, h1, _⟩ := h; obtain ⟨a, c, h2, _⟩ := h1.form; exact ⟨a, _, c, h2⟩
  obtain ⟨aN, mN, cN, rfl⟩ := hvf
  obtain ⟨w1, hw1⟩ : ∃ W, W = w.alloc (.cells #[.slice aN mN cN] 24) := ⟨_, rfl⟩
  have hb1 : Below w.heap.size w w1 := by rw [hw1]; exact (Below.refl _ _).alloc (Nat.le_refl _) _
  have h1 : Holds w1 w.heap.size 24 [.slice aN mN cN] := by rw [hw1]; exact Holds.new w 24 #[.slice aN mN cN]
  have HT := Lib.hid (ofFn (h.up (Keep.below hb1)) hs)
  have e0 := h1.cell 0
  simp only [List.getElem?_cons_zero] at e0
  have HB1 := Lib.hid hb1
  have HR := Lib.hid hr
  have HSN := Lib.hid hs
  obtain ⟨ay, cy, rfl, hcy, hcy2, _⟩ := hw.form
  obtain ⟨M, hM⟩ : ∃ M, wy.length = M := ⟨_, rfl⟩
  have HM := Lib.hid hM
  have HW := Lib.hid hw
  obtain ⟨K, hK17, hpk⟩ := pick18 pr 17 hpr (by omega) (by omega)
  have HPK : Hid (∀ w, Calls Try.prog 5 #[.int .i64 pr, .int .i64 17] w (fun e w' => e = .returned (.int .i64 (K : Int)) ∧ w' = w)) := hpk
  have hK : K ≤ 16 := by omega
  rw [hM] at hcy ⊢
  clear h hs hw hr hb1 h1 hM hpk hpr hK17
  go_enter Try.func3, Try.ntmps3
  go_upto_region 1 with (fail)
  rw [← hw1]
  obtain ⟨b3, hb3⟩ : ∃ b, w.heap.size = b := ⟨_, rfl⟩
  rw [hb3] at e0 ⊢
  clear hw1
  go_wp2_with (fail)
  refine HT.out.mono ?_
  rintro e w2 ⟨hb2, hpost⟩
  have HB2 : Hid (Below w.heap.size w w2) := HB1.out.trans (hb2.mono HB1.out.size)
  have HW2 := Lib.hid (HW.out.up (Keep.below HB2.out))
  clear hb2 HT HW HB1 hb3 e0
  have HEND : Hid (∀ W : World, Below w.heap.size w W → Calls Try.prog 6 #[] W (fun e W' => e = .returned (.bool true) ∧ Below w.heap.size w W')) := fun W hW => (knownFn18 W).mono fun e W' ⟨h1, h2⟩ => ⟨h1, hW.trans (h2.mono hW.size)⟩
  by_cases hchk : chk n = true
  case neg =>
    rw [if_neg hchk] at hpost
    subst hpost
    clear hchk
    go_wp2_with (fail)
    refine (HPK.out w2).mono ?_
    rintro e w3 ⟨rfl, rfl⟩
    go_wp2_with (fail)
    refine (HEND.out w3 HB2.out).mono ?_
    rintro e w4 ⟨rfl, hb3⟩
    have HB3 := Lib.hid hb3
    clear hb3
    go_wp2
    go_ret
    exact ⟨rfl, HB3.out⟩
  rw [if_pos hchk] at hpost
  obtain ⟨v2, rfl, hv2⟩ := hpost
  have hok : SysOk (gifc v2) (gsys n) w2 := graph_ok hv2 hchk HSN.out
  have hokc := copies_ok (K := K) hok (tiny_graph hchk) hK
  have hty := tiny_graph hchk
  obtain ⟨I, hI⟩ : ∃ I, I = gifc v2 := ⟨_, rfl⟩
  obtain ⟨S, hS⟩ : ∃ S, S = gsys n := ⟨_, rfl⟩
  obtain ⟨C, hC⟩ : ∃ C, C = cifc I K := ⟨_, rfl⟩
  have e1 : (.iface 53 (.agg #[v2]) : Value) = .iface I.tid I.dyn := by rw [hI]; rfl
  have HFO : Hid (Calls Try.prog 7 #[.iface I.tid I.dyn, .int .i64 (K : Int)] w2 (fun e w' => Below w2.heap.size w2 w' ∧ e = .returned (.tuple #[.iface C.tid C.dyn, .int .i64 0]))) := by
    rw [hC, hI]
    exact (fairOfFn (v := v2) hK w2).mono fun e w' h => h
  rw [e1]
  rw [← hI, ← hS] at hok
  rw [← hI, ← hS, ← hC] at hokc
  rw [← hS] at hty
  have HOK := Lib.hid hok
  have HOKC := Lib.hid hokc
  have HTY := Lib.hid hty
  have m1 := hokc.mB
  have m2 := hokc.eB
  have hbg := hokc.beg
  have HBG : Hid (∀ w', Below w2.heap.size w2 w' → Calls Try.prog C.fB #[C.dyn] w' (fun e w'' => e = .returned (.string (joinS 0 S.beg)) ∧ Below w'.heap.size w' w'')) := hbg
  have HAC : Hid (∀ W s, Below w2.heap.size w2 W → s.size ≤ 1048576 → Calls Try.prog 9 #[.iface C.tid C.dyn, .string s, .int .i64 10000] W (fun e W' => Below W.heap.size W W' ∧ ∃ v, e = .returned v ∧ MvsV (fun _ => True) W' v ((cnext S K s).take 10000))) := fun W s hW hs => allUp (hokc.at hW) hs
  have HAS : Hid (∀ W s, Below w2.heap.size w2 W → s.size ≤ 1048576 → Calls Try.prog 9 #[.iface I.tid I.dyn, .string s, .int .i64 10000] W (fun e W' => Below W.heap.size W W' ∧ ∃ v, e = .returned v ∧ MvsV (fun _ => True) W' v ((S.next s).take 10000))) := fun W s hW hs => allUp (hok.at hW) hs
  have HLC : Hid (∀ W s, Below w2.heap.size w2 W → s.size ≤ 1048576 → Calls Try.prog C.fL #[C.dyn, .string s] W (fun e W' => Below W.heap.size W W' ∧ e = .returned (sight (clook S K s)))) := fun W s hW hs => hokc.look W s hW hs
  have HLS : Hid (∀ W s, Below w2.heap.size w2 W → s.size ≤ 1048576 → Calls Try.prog I.fL #[I.dyn, .string s] W (fun e W' => Below W.heap.size W W' ∧ e = .returned (sight (S.look s)))) := fun W s hW hs => hok.look W s hW hs
  have HML := Lib.hid hok.mL
  have HEL := Lib.hid hok.eL
  have HMC := Lib.hid hokc.mL
  have HEC := Lib.hid hokc.eL
  have HRS : Hid (∀ s, s.size ≤ 1048576 → ∀ m ∈ S.next s, m.reads.length ≤ 2000000 ∧ m.writes.length ≤ 2000000) := hok.small.reads
  have HPI : Hid (∀ c ∈ wy, ∀ n : Nat, 0 < n → n ≤ 2000000 → ∃ r : Nat, r < n ∧ ∀ w, Calls Try.prog 5 #[.int .i64 c, .int .i64 (n : Int)] w (fun e w' => e = .returned (.int .i64 (r : Int)) ∧ w' = w)) := fun c hc n h1 h2 => pick18 c n (HR.out c hc) h1 h2
  clear hok hokc hty hbg hv2 hI hS hC e1 hchk HR
  go_wp2_with (fail)
  refine (HPK.out w2).mono ?_
  rintro e w3 ⟨rfl, rfl⟩
  go_wp2_with (fail)
  refine HFO.out.mono ?_
  rintro e w4 ⟨hb4, rfl⟩
  have HBB := Lib.hid hb4
  clear hb4 HFO HPK
  go_wp2_with (fail)
  refine (HBG.out w4 HBB.out).mono ?_
  rintro e w5 ⟨rfl, hb5⟩
  have HB5 := Lib.hid (HBB.out.trans (hb5.mono HBB.out.size))
  have HST : Hid (∃ kk x, cstate K (joinS 0 S.beg) = some (kk, x) ∧ (joinS 0 S.beg).size ≤ 1048576) := by
    refine ⟨0, S.beg, ?_, ?_⟩
    · unfold cstate
      rw [splitP_join (by omega)]
      simp
    · have h1 := HTY.out.beg
      have h2 := enc_small (n := 0) (by omega)
      rw [joinS_size]
      omega
  clear hb5 HBB HBG m1 m2
  go_wp2
  go_loopw [12, 13] (fun sv iv wr => ∃ (i : Nat) (s : ByteArray), sv = .string s ∧ iv = .int .i64 (i : Int) ∧ i ≤ 20 ∧ i ≤ M ∧ Hid (∃ kk x, cstate K s = some (kk, x) ∧ s.size ≤ 1048576) ∧ Hid (Below w3.heap.size w3 wr)) (fun _ iv _ => 20 - (intOf iv).toNat)
  case atStart => exact ⟨0, _, rfl, rfl, by omega, Nat.zero_le _, HST, HB5⟩
  case round =>
    clear HST HB5
    obtain ⟨i, s, hsv, hx, hi20, hiM, HST, HB⟩ := hrel
    subst hsv hx
    have HBW : Hid (Below w.heap.size w wr) := HB2.out.trans (HB.out.mono HB2.out.size)
    by_cases hin : i < M
    case neg =>
      have d1 : decide ((i : Int) < (M : Int)) = false := decide_eq_false (by omega)
      have hin2 : ¬ (i : Int) < (M : Int) := by omega
      go_wp2_with (fail)
      refine (HEND.out wr HBW.out).mono ?_
      rintro e w3 ⟨rfl, hb3⟩
      have HB3 := Lib.hid hb3
      clear hb3
      go_wp2
      go_ret
      exact ⟨rfl, HB3.out⟩
    by_cases hi2 : i < 20
    case neg =>
      have hin2 : (i : Int) < (M : Int) := by omega
      have hi22 : ¬ (i : Int) < 20 := by omega
      go_wp2_with (fail)
      refine (HEND.out wr HBW.out).mono ?_
      rintro e w3 ⟨rfl, hb3⟩
      have HB3 := Lib.hid hb3
      clear hb3
      go_wp2
      go_ret
      exact ⟨rfl, HB3.out⟩
    have hin2 : (i : Int) < (M : Int) := by omega
    have hi22 : (i : Int) < 20 := by omega
    have hi0i : (0 : Int) ≤ (i : Int) := by omega
    have hwii : IntKind.i64.wrap (i : Int) = (i : Int) := by rw [IntKind.wrap_i64]; omega
    have hwji : IntKind.i64.wrap ((i : Int) + 1) = (i : Int) + 1 := by rw [IntKind.wrap_i64]; omega
    have hil : i < wy.length := by rw [HM.out]; exact hin
    have hwr := HW2.out.up (Keep.below HB.out)
    rw [HM.out] at hwr
    have hwr' := hwr
    rw [← HM.out] at hwr'
    have hat := at_int (n := wy.length) hwr' hil
    obtain ⟨gy, oy, hay, hyc0⟩ := hat
    subst hay
    clear hyc0
    obtain ⟨cc, hcc⟩ : ∃ c, wy[i] = c := ⟨_, rfl⟩
    have HCC := Lib.hid (HPI.out cc (by rw [← hcc]; exact List.getElem_mem hil))
    have HYC : Hid (∀ W, Below wr.heap.size wr W → W.cell? ⟨gy, oy + i, none⟩ = some (.int .i64 cc)) := fun W hW => by
      have h1 := hwr'.up (Keep.below hW)
      obtain ⟨g2, o2, he, hc⟩ := at_int (n := wy.length) h1 hil
      injection he with he
      injection he with he1 he2
      subst he1 he2
      rw [hcc] at hc
      exact hc
    clear hwr hwr' hcc hil
    obtain ⟨kk, x, hcs, hss⟩ := HST.out
    obtain ⟨hsp, hkK⟩ := cstate_split hcs
    have hxs : x.size ≤ 1048576 := Nat.le_trans (cstate_size hcs).1 hss
    have HSPL : Hid (Calls Try.prog 8 #[.string s] wr (fun e w' => Below wr.heap.size wr w' ∧ e = .returned (.tuple #[.int .i64 (kk : Int), .string x, .bool true]))) := by
      refine (splitFn (w := wr) hss).mono ?_
      rintro e w' ⟨h1, h2⟩
      rw [hsp] at h2
      exact ⟨h1, h2⟩
    have hcn : cnext S K s = (S.next x).map (cmove K kk (cgoes S kk x)) := by unfold cnext; rw [hcs]
    have hcl : clook S K s = { S.look x with acc := (S.look x).acc && decide (kk = 0) } := by unfold clook; rw [hcs]
    obtain ⟨g, hg⟩ : ∃ g, cgoes S kk x = g := ⟨_, rfl⟩
    have hac := fun W hW => HAC.out W s hW hss
    have has := fun W hW => HAS.out W x hW hxs
    have hlc := fun W hW => HLC.out W s hW hss
    have hls := fun W hW => HLS.out W x hW hxs
    have HRX := Lib.hid (HRS.out x hxs)
    have HDX := Lib.hid (HTY.out.dsts x hxs)
    rw [hcn, ← List.map_take] at hac
    rw [hcl] at hlc
    have hms0 : ∀ m ∈ (S.next x).take 10000, m ∈ S.next x := fun m hm => List.mem_of_mem_take hm
    have hml : ((S.next x).take 10000).length ≤ 10000 := by rw [List.length_take]; omega
    obtain ⟨ms, hms⟩ : ∃ l, (S.next x).take 10000 = l := ⟨_, rfl⟩
    obtain ⟨X, hX⟩ : ∃ X, S.look x = X := ⟨_, rfl⟩
    rw [hms] at hac has hms0 hml
    rw [hX] at hlc hls
    rw [hg] at hac
    obtain ⟨arcs, p1, u1, u2, u3⟩ := X
    obtain ⟨u4, hu4⟩ : ∃ u, (u3 && decide (kk = 0)) = u := ⟨_, rfl⟩
    dsimp only at hlc
    rw [hu4] at hlc
    have HLC1 : Hid (∀ W, Below w3.heap.size w3 W → Calls Try.prog C.fL #[C.dyn, .string s] W (fun e W' => Below W.heap.size W W' ∧ e = .returned (.agg #[.int .u64 (p1 : Int), .bool u1, .bool u2, .bool u4]))) := hlc
    have HLS1 : Hid (∀ W, Below w3.heap.size w3 W → Calls Try.prog I.fL #[I.dyn, .string x] W (fun e W' => Below W.heap.size W W' ∧ e = .returned (.agg #[.int .u64 (p1 : Int), .bool u1, .bool u2, .bool u3]))) := hls
    have HAC1 := Lib.hid hac
    have HAS1 := Lib.hid has
    have HMS : Hid (∀ m ∈ ms, m.dst.size ≤ 1000000 ∧ m.reads.length ≤ 2000000 ∧ m.writes.length ≤ 2000000) := fun m hm => ⟨HDX.out m (hms0 m hm), HRX.out m (hms0 m hm)⟩
    obtain ⟨N, hN⟩ : ∃ N, ms.length = N := ⟨_, rfl⟩
    rw [hN] at hml
    have HN := Lib.hid hN
    have hN2 : (ms.map (cmove K kk g)).length = N := by rw [List.length_map, hN]
    have HN2 := Lib.hid hN2
    have hk0 : ¬ (kk : Int) < 0 := by omega
    have hkK2 : ¬ (K : Int) < (kk : Int) := by omega
    clear hac has hlc hls hu4 hX hms hms0 hg hcl hcn HRX HDX hcs hss hsp hxs hN hN2 HST
    go_wp2_with (fail)
    refine HSPL.out.mono ?_
    rintro e wa ⟨hba, rfl⟩
    have HBA : Hid (Below w3.heap.size w3 wa) := HB.out.trans (hba.mono HB.out.size)
    have HBA0 := Lib.hid hba
    clear hba HSPL
    go_wp2_with (fail)
    refine (HAC1.out wa HBA.out).mono ?_
    rintro e wb ⟨hbb, vl, rfl, hvl⟩
    have HBB1 : Hid (Below w3.heap.size w3 wb) := HBA.out.trans (hbb.mono HBA.out.size)
    have HBB0 : Hid (Below wr.heap.size wr wb) := HBA0.out.trans (hbb.mono HBA0.out.size)
    obtain ⟨aE, cE, rfl, hcE⟩ := hvl.lensN HN2.out
    have HVL := Lib.hid hvl
    clear hbb hvl HAC1 HBA HBA0
    go_wp2_with (fail)
    refine (HAS1.out wb HBB1.out).mono ?_
    rintro e wc ⟨hbc, vm, rfl, hvm⟩
    have HBC : Hid (Below w3.heap.size w3 wc) := HBB1.out.trans (hbc.mono HBB1.out.size)
    have HBC0 : Hid (Below wr.heap.size wr wc) := HBB0.out.trans (hbc.mono HBB0.out.size)
    have HVE := Lib.hid (HVL.out.up (Keep.below hbc))
    obtain ⟨aM, cM, rfl, hcM⟩ := hvm.lensN HN.out
    have HVM := Lib.hid hvm
    clear hbc hvm HVL HAS1 HBB0 HBB1
    have dN : ((N : Int) != (N : Int)) = false := by simp
    have dP : ((p1 : Int) != (p1 : Int)) = false := by simp
    have mLc := HMC.out
    have eLc := HEC.out
    have mLs := HML.out
    have eLs := HEL.out
    have f0 := field_s0
    have f1 := field_s1
    have f2 := field_s2
    go_wp2_with (fail)
    refine (HLC1.out wc HBC.out).mono ?_
    rintro e wl0 ⟨hbx, rfl⟩
    have HL0 : Hid (Below w3.heap.size w3 wl0) := HBC.out.trans (hbx.mono HBC.out.size)
    have HM0 : Hid (Below wc.heap.size wc wl0) := hbx
    clear hbx
    go_wp2_with (fail)
    refine (HLS1.out wl0 HL0.out).mono ?_
    rintro e wl1 ⟨hbx, rfl⟩
    have HL1 : Hid (Below w3.heap.size w3 wl1) := HL0.out.trans (hbx.mono HL0.out.size)
    have HM1 : Hid (Below wc.heap.size wc wl1) := HM0.out.trans (hbx.mono HM0.out.size)
    clear hbx HL0 HM0
    go_wp2_with (fail)
    refine (HLC1.out wl1 HL1.out).mono ?_
    rintro e wl2 ⟨hbx, rfl⟩
    have HL2 : Hid (Below w3.heap.size w3 wl2) := HL1.out.trans (hbx.mono HL1.out.size)
    have HM2 : Hid (Below wc.heap.size wc wl2) := HM1.out.trans (hbx.mono HM1.out.size)
    clear hbx HL1 HM1
    go_wp2_with (fail)
    refine (HLS1.out wl2 HL2.out).mono ?_
    rintro e wl3 ⟨hbx, rfl⟩
    have HL3 : Hid (Below w3.heap.size w3 wl3) := HL2.out.trans (hbx.mono HL2.out.size)
    have HM3 : Hid (Below wc.heap.size wc wl3) := HM2.out.trans (hbx.mono HM2.out.size)
    clear hbx HL2 HM2
    go_wp2_with (fail)
    refine (HLC1.out wl3 HL3.out).mono ?_
    rintro e wl4 ⟨hbx, rfl⟩
    have HL4 : Hid (Below w3.heap.size w3 wl4) := HL3.out.trans (hbx.mono HL3.out.size)
    have HM4 : Hid (Below wc.heap.size wc wl4) := HM3.out.trans (hbx.mono HM3.out.size)
    clear hbx HL3 HM3
    go_wp2_with (fail)
    refine (HLS1.out wl4 HL4.out).mono ?_
    rintro e wl5 ⟨hbx, rfl⟩
    have HL5 : Hid (Below w3.heap.size w3 wl5) := HL4.out.trans (hbx.mono HL4.out.size)
    have HM5 : Hid (Below wc.heap.size wc wl5) := HM4.out.trans (hbx.mono HM4.out.size)
    clear hbx HL4 HM4
    go_wp2
    clear mLc eLc mLs eLs f0 f1 f2
    have hyl := fun W (hW : Below wl5.heap.size wl5 W) => HYC.out W (HBC0.out.trans ((HM5.out.trans (hW.mono HM5.out.size)).mono HBC0.out.size))
    have HYL : Hid (∀ W, Below wl5.heap.size wl5 W → W.cell? ⟨gy, oy + i, none⟩ = some (.int .i64 cc)) := hyl
    have HVE5 := Lib.hid (HVE.out.up (Keep.below HM5.out))
    have HVM5 := Lib.hid (HVM.out.up (Keep.below HM5.out))
    clear hyl HYC HVE HVM HLC1 HLS1 HBC HBC0 HM5 HB
    go_loopw [19] (fun jv wx => ∃ jj : Nat, jv = .int .i64 (jj : Int) ∧ jj ≤ N ∧ Hid (Below wl5.heap.size wl5 wx)) (fun jv _ => N - (intOf jv).toNat)
    case atStart => exact ⟨0, rfl, Nat.zero_le _, Below.refl _ _⟩
    case round =>
      obtain ⟨jj, hjv, hj, HX⟩ := hrel
      subst hjv
      by_cases hjn : jj < N
      · have hjl : jj < ms.length := by rw [HN.out]; exact hjn
        have hj2j : (jj : Int) < (N : Int) := by omega
        have hj0j : (0 : Int) ≤ (jj : Int) := by omega
        have hwjj : IntKind.i64.wrap (jj : Int) = (jj : Int) := by rw [IntKind.wrap_i64]; omega
        have hwj1 : IntKind.i64.wrap ((jj : Int) + 1) = (jj : Int) + 1 := by rw [IntKind.wrap_i64]; omega
        obtain ⟨m, hm⟩ : ∃ m, ms[jj] = m := ⟨_, rfl⟩
        have hmi := HMS.out m (by rw [← hm]; exact List.getElem_mem hjl)
        have hve := HVE5.out.up (Keep.below HX.out)
        have hvm := HVM5.out.up (Keep.below HX.out)
        obtain ⟨gE, oE, cE', hee⟩ := hve.ptr HN2.out (by omega)
        injection hee with hee _ hee2
        subst hee hee2
        obtain ⟨gM, oM, cM', hmm⟩ := hvm.ptr HN.out (by omega)
        injection hmm with hmm _ hmm2
        subst hmm hmm2
        obtain ⟨xE, hGE, hrE⟩ := hve.elem jj (by rw [HN2.out]; exact hjn)
        obtain ⟨xM, hGM, hrM⟩ := hvm.elem jj hjl
        obtain ⟨td, htd, htd0, htd1⟩ := cmove_form K kk g m
        rw [List.getElem_map, hm, htd] at hGE
        rw [hm] at hGM
        have hnx := cnum_le hkK g m
        obtain ⟨nx, hnxe⟩ : ∃ n, cnum K kk g m = n := ⟨_, rfl⟩
        rw [hnxe] at hnx htd0
        obtain ⟨a1, k1, a2, k2, rfl, r1, r2⟩ := mvF_box hGE
        obtain ⟨a3, k3, a4, k4, rfl, r3, r4⟩ := mvF_box hGM
        clear hm hjl htd hnxe hve hvm hGE hGM
        obtain ⟨mp, me, mw, mx, md, mb, mr, mt, mu⟩ := m
        dsimp only at hmi htd0 htd1 r1 r2 r3 r4
        obtain ⟨n1, hn1⟩ : ∃ n, mr.length = n := ⟨_, rfl⟩
        obtain ⟨n2, hn2⟩ : ∃ n, mt.length = n := ⟨_, rfl⟩
        simp only [mvC, hn1, hn2] at hrE hrM
        rw [hn1] at r1 r3
        rw [hn2] at r2 r4
        rw [hn1, hn2] at hmi
        have HN1 := Lib.hid hn1
        have HN2' := Lib.hid hn2
        have HRE := Lib.hid hrE
        have HRR := Lib.hid hrM
        have HR1 := Lib.hid r1
        have HR2 := Lib.hid r2
        have HR3 := Lib.hid r3
        have HR4 := Lib.hid r4
        have HMI := Lib.hid hmi
        have HZ5 := Lib.hid (Holds.new wr 44 #[.int .i64 0, .int .i64 0, .int .i64 0, .int .i64 0, .string ⟨#[]⟩, .int .i64 0, .slice none 0 0, .slice none 0 0, .int .u64 0])
        clear hn1 hn2 hrE hrM r1 r2 r3 r4 hmi
        go_wp2_with (first | (refine wpList_load_mid rfl 44 _ rfl gE (oE + jj * 9) rfl [.int .i64 mp, .int .i64 me, .int .i64 mw, .int .i64 mx, .string td, .int .i64 mb, .slice a1 n1 k1, .slice a2 n2 k2, .int .u64 (mu : Int)] _ HRE.out Try.underlying44 rfl sz_Move ?_) | (refine wpList_storeB rfl 44 _ _ rfl wr.heap.size 0 [.int .i64 mp, .int .i64 me, .int .i64 mw, .int .i64 mx, .string td, .int .i64 mb, .slice a1 n1 k1, .slice a2 n2 k2, .int .u64 (mu : Int)] rfl rfl HZ5.out (Nat.le_of_ble_eq_true rfl) sz_Move rfl ?_))
        refine Named.mk (fun w6 hW6 => ?_)
        have hb6 : Below wr.heap.size wr w6 := by rw [hW6]; exact Below.far (Below.refl _ _) (Nat.le_refl _) _ _ _
        have h6 : Holds w6 wr.heap.size 44 [.int .i64 mp, .int .i64 me, .int .i64 mw, .int .i64 mx, .string td, .int .i64 mb, .slice a1 n1 k1, .slice a2 n2 k2, .int .u64 (mu : Int)] := HZ5.out.stored hW6 (Nat.le_of_ble_eq_true rfl)
        obtain ⟨b5, hb5⟩ : ∃ b, wr.heap.size = b := ⟨_, rfl⟩
        have HB5E : Hid (wr.heap.size = b5) := hb5
        rw [hb5] at h6 ⊢
        have x4 := h6.cell 4
        have x5 := h6.cell 5
        simp only [List.getElem?_cons_zero, List.getElem?_cons_succ] at x4 x5
        have H6 := Lib.hid h6
        have HB6 := Lib.hid hb6
        clear hW6 hb6 h6 HZ5 HRE hb5
        by_cases hmb : mb = 0
        · have d5 : (mb == 0) = true := by simpa using hmb
          have htj := htd0 hmb
          subst htj
          have hts : (joinS nx md).size ≤ 1048576 := by
            rw [joinS_size]
            have := enc_small (n := nx) (by omega)
            have := HMI.out.1
            omega
          have HS6 : Hid (Calls Try.prog 8 #[.string (joinS nx md)] w6 (fun e w' => Below w6.heap.size w6 w' ∧ e = .returned (.tuple #[.int .i64 (nx : Int), .string md, .bool true]))) := by
            refine (splitFn (w := w6) hts).mono ?_
            rintro e w' ⟨h1, h2⟩
            rw [splitP_join (by omega)] at h2
            exact ⟨h1, h2⟩
          clear hmb htd0 htd1 hts
          go_wp2_with (fail)
          refine HS6.out.mono ?_
          rintro e w7 ⟨hb7, rfl⟩
          have HB7 : Hid (Below wr.heap.size wr w7) := HB6.out.trans (hb7.mono HB6.out.size)
          have H7 := Lib.hid (H6.out.belowAll hb7)
          clear hb7 HS6 x4 x5 H6
          have hwk1 : IntKind.i64.wrap ((kk : Int) + 1) = (kk : Int) + 1 := by rw [IntKind.wrap_i64]; omega
          have hq : ∃ q1 q2 q3 : Bool, ((nx : Int) != (kk : Int)) = q1 ∧ ((nx : Int) != (kk : Int) + 1) = q2 ∧ ((nx : Int) != 0) = q3 ∧ (q1 = false ∨ q2 = false ∨ q3 = false) := by
            refine ⟨_, _, _, rfl, rfl, rfl, ?_⟩
            simp only [bne_eq_false_iff_eq]
            omega
          obtain ⟨q1, q2, q3, e1, e2, e3, hq⟩ := hq
          go_upto_region 25 with (fail)
          go_cut [155] (fun sv wx2 => sv = .bool false ∧ wx2 = w7)
          case first =>
            cases q1 with
            | false =>
              go_wp2
              go_meet
              case rel => exact ⟨rfl, rfl⟩
            | true =>
              cases q2 with
              | false =>
                go_wp2
                go_meet
                case rel => exact ⟨rfl, rfl⟩
              | true =>
                obtain rfl : q3 = false := by simpa using hq
                go_wp2
                go_meet
                case rel => exact ⟨rfl, rfl⟩
          case rest =>
            obtain ⟨hsv, hwc⟩ := hcut
            subst hsv
            clear e1 e2 e3 hq hwk1
            rw [hwc]
            clear hwc
            go_wp2_with (refine wpList_store1 rfl 9 _ _ rfl b5 4 (.string md) rfl rfl H7.out (by simp) sz_Str rfl rfl ?_)
            refine Named.mk (fun w8 hW8 => ?_)
            have hf8 : Fr (fun q => q = b5) w7 w8 := by rw [hW8]; exact Fr.setRX _ _ 4 _
            have h8 := H7.out.stored hW8 (by simp)
            have H8 : Hid (Holds w8 b5 44 [.int .i64 mp, .int .i64 me, .int .i64 mw, .int .i64 mx, .string md, .int .i64 mb, .slice a1 n1 k1, .slice a2 n2 k2, .int .u64 (mu : Int)]) := h8
            have HB8 : Hid (Below wr.heap.size wr w8) := HB7.out.trans (below_of_fr hf8 (by have := HB5E.out; omega) HB7.out.size)
            clear hW8 hf8 h8 H7 HB7
            have hrg := H8.out.range (i := 0) (n := 9) (xs := [.int .i64 mp, .int .i64 me, .int .i64 mw, .int .i64 mx, .string md, .int .i64 mb, .slice a1 n1 k1, .slice a2 n2 k2, .int .u64 (mu : Int)]) rfl
            have HRG := Lib.hid hrg
            have HRM8 := Lib.hid (range_below HRR.out HB8.out)
            have HVA : Hid (∀ V, Below w8.heap.size w8 V → Calls Try.prog 10 #[.agg #[.int .i64 mp, .int .i64 me, .int .i64 mw, .int .i64 mx, .string md, .int .i64 mb, .slice a1 n1 k1, .slice a2 n2 k2, .int .u64 (mu : Int)], .agg #[.int .i64 mp, .int .i64 me, .int .i64 mw, .int .i64 mx, .string md, .int .i64 mb, .slice a3 n1 k3, .slice a4 n2 k4, .int .u64 (mu : Int)]] V (BoolB true V)) := fun V hV => by
              have hV8 := HB8.out.trans (hV.mono HB8.out.size)
              have g1 := HR1.out.up (Keep.below hV8)
              have g2 := HR2.out.up (Keep.below hV8)
              have g3 := HR3.out.up (Keep.below hV8)
              have g4 := HR4.out.up (Keep.below hV8)
              exact moveEq (MvF.mk' g1 g2 HN1.out HN2'.out) (MvF.mk' g3 g4 HN1.out HN2'.out) ⟨by rw [show (⟨mp, me, mw, mx, md, mb, mr, mt, mu⟩ : PMove).reads = mr from rfl, HN1.out]; exact HMI.out.2.1, by rw [show (⟨mp, me, mw, mx, md, mb, mr, mt, mu⟩ : PMove).writes = mt from rfl, HN2'.out]; exact HMI.out.2.2⟩
            have HB8' : Hid (Below wl5.heap.size wl5 w8) := HX.out.trans (HB8.out.mono HX.out.size)
            clear hrg HR1 HR2 HR3 HR4 H8
            go_wp2_with (fail)
            refine wp_region_rho (fun (r : Unit) j => ([(.agg #[.int .i64 mp, .int .i64 me, .int .i64 mw, .int .i64 mx, .string md, .int .i64 mb, .slice a1 n1 k1, .slice a2 n2 k2, .int .u64 (mu : Int)]), (.slice (some ⟨gM, oM, none⟩) N cM), (.int .i64 (jj : Int)), (.pointer (some ⟨gM, oM + jj * 9, none⟩)), (.agg #[.int .i64 mp, .int .i64 me, .int .i64 mw, .int .i64 mx, .string md, .int .i64 mb, .slice a3 n1 k3, .slice a4 n2 k4, .int .u64 (mu : Int)]), (.bool true), (.bool false)] : List Value).getD j undef) (fun _ L w2 => Below w8.heap.size w8 w2) [(0, 158), (1, 159), (2, 160), (3, 161), (4, 162), (5, 163), (6, 164)] 194 rfl (by kernel_rfl) (by kernel_rfl) (by kernel_rfl) () (Below.refl _ _).drew (fun i hi => ?_) (fun r w9 hW9 => ?_)
            · have hi2 : i < 7 := hi
              clear hi
              have hi3 : i = 0 ∨ i = 1 ∨ i = 2 ∨ i = 3 ∨ i = 4 ∨ i = 5 ∨ i = 6 := by omega
              clear hi2
              rcases hi3 with rfl | rfl | rfl | rfl | rfl | rfl | rfl
              · exact RhoOp.pure rfl (fun r L b w2 hl hR hW => by
                  have hlo := run_loadAt_mid (P := Try.prog) w2 b5 0 44 [.int .i64 mp, .int .i64 me, .int .i64 mw, .int .i64 mx, .string md, .int .i64 mb, .slice a1 n1 k1, .slice a2 n2 k2, .int .u64 (mu : Int)] _ (range_below HRG.out hW) Try.underlying44 rfl sz_Move
                  have h20 : b.eval (.tmp 20) = .pointer (some ⟨b5, 0, none⟩) := (hR.old (by decide) (by kernel_rfl)).trans rfl
                  simp only [Act.eval, Array.getD_eq_getD_getElem?] at h20
                  show (execOp b.eval _).run _ _ = .ok (.value (.agg #[.int .i64 mp, .int .i64 me, .int .i64 mw, .int .i64 mx, .string md, .int .i64 mb, .slice a1 n1 k1, .slice a2 n2 k2, .int .u64 (mu : Int)])) _
                  unfold execOp
                  simp [Act.eval, h20, Sem.run_bind, hlo]) (fun _ _ _ _ h => h)
              · exact RhoOp.pure rfl (fun r L b w2 hl hR hW => by
                  have h18 : b.eval (.tmp 18) = .slice (some ⟨gM, oM, none⟩) N cM := (hR.old (by decide) (by kernel_rfl)).trans rfl
                  simp only [Act.eval, Array.getD_eq_getD_getElem?] at h18
                  show (execOp b.eval _).run _ _ = .ok (.value (.slice (some ⟨gM, oM, none⟩) N cM)) _
                  unfold execOp
                  simp [go_sem, h18]) (fun _ _ _ _ h => h)
              · exact RhoOp.pure rfl (fun r L b w2 hl hR hW => by
                  have h19 : b.eval (.tmp 19) = .int .i64 (jj : Int) := (hR.old (by decide) (by kernel_rfl)).trans rfl
                  simp only [Act.eval, Array.getD_eq_getD_getElem?] at h19
                  show (execOp b.eval _).run _ _ = .ok (.value (.int .i64 (jj : Int))) _
                  unfold execOp
                  simp [go_sem, h19]) (fun _ _ _ _ h => h)
              · exact RhoOp.pure rfl (fun r L b w2 hl hR hW => by
                  have h159 : b.eval (.tmp 159) = .slice (some ⟨gM, oM, none⟩) N cM := hR.of (j := 1) (by decide) (by kernel_rfl)
                  have h160 : b.eval (.tmp 160) = .int .i64 (jj : Int) := hR.of (j := 2) (by decide) (by kernel_rfl)
                  simp only [Act.eval, Array.getD_eq_getD_getElem?] at h159 h160
                  show (execOp b.eval _).run _ _ = .ok (.value (.pointer (some ⟨gM, oM + jj * 9, none⟩))) _
                  unfold execOp
                  simp [go_sem, h159, h160, hj0j, hj2j, hwjj]) (fun _ _ _ _ h => h)
              · exact RhoOp.pure rfl (fun r L b w2 hl hR hW => by
                  have hlo := run_loadAt_mid (P := Try.prog) w2 gM (oM + jj * 9) 44 [.int .i64 mp, .int .i64 me, .int .i64 mw, .int .i64 mx, .string md, .int .i64 mb, .slice a3 n1 k3, .slice a4 n2 k4, .int .u64 (mu : Int)] _ (range_below HRM8.out hW) Try.underlying44 rfl sz_Move
                  have h161 : b.eval (.tmp 161) = .pointer (some ⟨gM, oM + jj * 9, none⟩) := hR.of (j := 3) (by decide) (by kernel_rfl)
                  simp only [Act.eval, Array.getD_eq_getD_getElem?] at h161
                  show (execOp b.eval _).run _ _ = .ok (.value (.agg #[.int .i64 mp, .int .i64 me, .int .i64 mw, .int .i64 mx, .string md, .int .i64 mb, .slice a3 n1 k3, .slice a4 n2 k4, .int .u64 (mu : Int)])) _
                  unfold execOp
                  simp [Act.eval, h161, Sem.run_bind, hlo]) (fun _ _ _ _ h => h)
              · exact RhoOp.call (f := 10) rfl (fun r L b w2 hs hl hR hW => by
                  have h158 : b.eval (.tmp 158) = .agg #[.int .i64 mp, .int .i64 me, .int .i64 mw, .int .i64 mx, .string md, .int .i64 mb, .slice a1 n1 k1, .slice a2 n2 k2, .int .u64 (mu : Int)] := hR.of (j := 0) (by decide) (by kernel_rfl)
                  have h162 : b.eval (.tmp 162) = .agg #[.int .i64 mp, .int .i64 me, .int .i64 mw, .int .i64 mx, .string md, .int .i64 mb, .slice a3 n1 k3, .slice a4 n2 k4, .int .u64 (mu : Int)] := hR.of (j := 4) (by decide) (by kernel_rfl)
                  simp only [Act.eval, Array.getD_eq_getD_getElem?] at h158 h162
                  refine ⟨#[.agg #[.int .i64 mp, .int .i64 me, .int .i64 mw, .int .i64 mx, .string md, .int .i64 mb, .slice a1 n1 k1, .slice a2 n2 k2, .int .u64 (mu : Int)], .agg #[.int .i64 mp, .int .i64 me, .int .i64 mw, .int .i64 mx, .string md, .int .i64 mb, .slice a3 n1 k3, .slice a4 n2 k4, .int .u64 (mu : Int)]], ?_, ?_⟩
                  · unfold execOp
                    simp [go_sem, h158, h162]
                  · refine (HVA.out w2 hW).mono fun e w4 h => ?_
                    exact ⟨(), fun _ _ => rfl, h.1, hW.trans (h.2.mono hW.size)⟩)
              · exact RhoOp.pure rfl (fun r L b w2 hl hR hW => by
                  have h163 : b.eval (.tmp 163) = .bool true := hR.of (j := 5) (by decide) (by kernel_rfl)
                  simp only [Act.eval, Array.getD_eq_getD_getElem?] at h163
                  show (execOp b.eval _).run _ _ = .ok (.value (.bool false)) _
                  unfold execOp
                  simp [go_sem, h163]) (fun _ _ _ _ h => h)
            · refine puts_as (ps := [(0, 158, .agg #[.int .i64 mp, .int .i64 me, .int .i64 mw, .int .i64 mx, .string md, .int .i64 mb, .slice a1 n1 k1, .slice a2 n2 k2, .int .u64 (mu : Int)]), (1, 159, .slice (some ⟨gM, oM, none⟩) N cM), (2, 160, .int .i64 (jj : Int)), (3, 161, .pointer (some ⟨gM, oM + jj * 9, none⟩)), (4, 162, .agg #[.int .i64 mp, .int .i64 me, .int .i64 mw, .int .i64 mx, .string md, .int .i64 mb, .slice a3 n1 k3, .slice a4 n2 k4, .int .u64 (mu : Int)]), (5, 163, .bool true), (6, 164, .bool false)]) rfl ?_
              simp only [puts, Act.put, List.setIfInBounds_toArray, List.set_cons_zero, List.set_cons_succ]
              have HB9 : Hid (Below wl5.heap.size wl5 w9) := HB8'.out.trans (hW9.mono HB8'.out.size)
              clear hW9
              go_wp2
              refine ⟨⟨jj + 1, by simp, by omega, HB9⟩, ?_⟩
              simp [intOf]
              omega
        · have d5 : (mb == 0) = false := by simpa using hmb
          have htj := (htd1 hmb).symm
          subst htj
          obtain ⟨w8, hw8⟩ : ∃ W, w6 = W := ⟨_, rfl⟩
          rw [hw8] at x4 x5 H6 HB6 ⊢
          have H8 : Hid (Holds w8 b5 44 [.int .i64 mp, .int .i64 me, .int .i64 mw, .int .i64 mx, .string md, .int .i64 mb, .slice a1 n1 k1, .slice a2 n2 k2, .int .u64 (mu : Int)]) := H6.out
          have HB8 : Hid (Below wr.heap.size wr w8) := HB6.out
          clear hw8 hmb htd0 htd1 H6 HB6
          have hrg := H8.out.range (i := 0) (n := 9) (xs := [.int .i64 mp, .int .i64 me, .int .i64 mw, .int .i64 mx, .string md, .int .i64 mb, .slice a1 n1 k1, .slice a2 n2 k2, .int .u64 (mu : Int)]) rfl
          have HRG := Lib.hid hrg
          have HRM8 := Lib.hid (range_below HRR.out HB8.out)
          have HVA : Hid (∀ V, Below w8.heap.size w8 V → Calls Try.prog 10 #[.agg #[.int .i64 mp, .int .i64 me, .int .i64 mw, .int .i64 mx, .string md, .int .i64 mb, .slice a1 n1 k1, .slice a2 n2 k2, .int .u64 (mu : Int)], .agg #[.int .i64 mp, .int .i64 me, .int .i64 mw, .int .i64 mx, .string md, .int .i64 mb, .slice a3 n1 k3, .slice a4 n2 k4, .int .u64 (mu : Int)]] V (BoolB true V)) := fun V hV => by
            have hV8 := HB8.out.trans (hV.mono HB8.out.size)
            have g1 := HR1.out.up (Keep.below hV8)
            have g2 := HR2.out.up (Keep.below hV8)
            have g3 := HR3.out.up (Keep.below hV8)
            have g4 := HR4.out.up (Keep.below hV8)
            exact moveEq (MvF.mk' g1 g2 HN1.out HN2'.out) (MvF.mk' g3 g4 HN1.out HN2'.out) ⟨by rw [show (⟨mp, me, mw, mx, md, mb, mr, mt, mu⟩ : PMove).reads = mr from rfl, HN1.out]; exact HMI.out.2.1, by rw [show (⟨mp, me, mw, mx, md, mb, mr, mt, mu⟩ : PMove).writes = mt from rfl, HN2'.out]; exact HMI.out.2.2⟩
          have HB8' : Hid (Below wl5.heap.size wl5 w8) := HX.out.trans (HB8.out.mono HX.out.size)
          clear hrg HR1 HR2 HR3 HR4 H8
          go_wp2_with (fail)
          refine wp_region_rho (fun (r : Unit) j => ([(.agg #[.int .i64 mp, .int .i64 me, .int .i64 mw, .int .i64 mx, .string md, .int .i64 mb, .slice a1 n1 k1, .slice a2 n2 k2, .int .u64 (mu : Int)]), (.slice (some ⟨gM, oM, none⟩) N cM), (.int .i64 (jj : Int)), (.pointer (some ⟨gM, oM + jj * 9, none⟩)), (.agg #[.int .i64 mp, .int .i64 me, .int .i64 mw, .int .i64 mx, .string md, .int .i64 mb, .slice a3 n1 k3, .slice a4 n2 k4, .int .u64 (mu : Int)]), (.bool true), (.bool false)] : List Value).getD j undef) (fun _ L w2 => Below w8.heap.size w8 w2) [(0, 158), (1, 159), (2, 160), (3, 161), (4, 162), (5, 163), (6, 164)] 194 rfl (by kernel_rfl) (by kernel_rfl) (by kernel_rfl) () (Below.refl _ _).drew (fun i hi => ?_) (fun r w9 hW9 => ?_)
          · have hi2 : i < 7 := hi
            clear hi
            have hi3 : i = 0 ∨ i = 1 ∨ i = 2 ∨ i = 3 ∨ i = 4 ∨ i = 5 ∨ i = 6 := by omega
            clear hi2
            rcases hi3 with rfl | rfl | rfl | rfl | rfl | rfl | rfl
            · exact RhoOp.pure rfl (fun r L b w2 hl hR hW => by
                have hlo := run_loadAt_mid (P := Try.prog) w2 b5 0 44 [.int .i64 mp, .int .i64 me, .int .i64 mw, .int .i64 mx, .string md, .int .i64 mb, .slice a1 n1 k1, .slice a2 n2 k2, .int .u64 (mu : Int)] _ (range_below HRG.out hW) Try.underlying44 rfl sz_Move
                have h20 : b.eval (.tmp 20) = .pointer (some ⟨b5, 0, none⟩) := (hR.old (by decide) (by kernel_rfl)).trans rfl
                simp only [Act.eval, Array.getD_eq_getD_getElem?] at h20
                show (execOp b.eval _).run _ _ = .ok (.value (.agg #[.int .i64 mp, .int .i64 me, .int .i64 mw, .int .i64 mx, .string md, .int .i64 mb, .slice a1 n1 k1, .slice a2 n2 k2, .int .u64 (mu : Int)])) _
                unfold execOp
                simp [Act.eval, h20, Sem.run_bind, hlo]) (fun _ _ _ _ h => h)
            · exact RhoOp.pure rfl (fun r L b w2 hl hR hW => by
                have h18 : b.eval (.tmp 18) = .slice (some ⟨gM, oM, none⟩) N cM := (hR.old (by decide) (by kernel_rfl)).trans rfl
                simp only [Act.eval, Array.getD_eq_getD_getElem?] at h18
                show (execOp b.eval _).run _ _ = .ok (.value (.slice (some ⟨gM, oM, none⟩) N cM)) _
                unfold execOp
                simp [go_sem, h18]) (fun _ _ _ _ h => h)
            · exact RhoOp.pure rfl (fun r L b w2 hl hR hW => by
                have h19 : b.eval (.tmp 19) = .int .i64 (jj : Int) := (hR.old (by decide) (by kernel_rfl)).trans rfl
                simp only [Act.eval, Array.getD_eq_getD_getElem?] at h19
                show (execOp b.eval _).run _ _ = .ok (.value (.int .i64 (jj : Int))) _
                unfold execOp
                simp [go_sem, h19]) (fun _ _ _ _ h => h)
            · exact RhoOp.pure rfl (fun r L b w2 hl hR hW => by
                have h159 : b.eval (.tmp 159) = .slice (some ⟨gM, oM, none⟩) N cM := hR.of (j := 1) (by decide) (by kernel_rfl)
                have h160 : b.eval (.tmp 160) = .int .i64 (jj : Int) := hR.of (j := 2) (by decide) (by kernel_rfl)
                simp only [Act.eval, Array.getD_eq_getD_getElem?] at h159 h160
                show (execOp b.eval _).run _ _ = .ok (.value (.pointer (some ⟨gM, oM + jj * 9, none⟩))) _
                unfold execOp
                simp [go_sem, h159, h160, hj0j, hj2j, hwjj]) (fun _ _ _ _ h => h)
            · exact RhoOp.pure rfl (fun r L b w2 hl hR hW => by
                have hlo := run_loadAt_mid (P := Try.prog) w2 gM (oM + jj * 9) 44 [.int .i64 mp, .int .i64 me, .int .i64 mw, .int .i64 mx, .string md, .int .i64 mb, .slice a3 n1 k3, .slice a4 n2 k4, .int .u64 (mu : Int)] _ (range_below HRM8.out hW) Try.underlying44 rfl sz_Move
                have h161 : b.eval (.tmp 161) = .pointer (some ⟨gM, oM + jj * 9, none⟩) := hR.of (j := 3) (by decide) (by kernel_rfl)
                simp only [Act.eval, Array.getD_eq_getD_getElem?] at h161
                show (execOp b.eval _).run _ _ = .ok (.value (.agg #[.int .i64 mp, .int .i64 me, .int .i64 mw, .int .i64 mx, .string md, .int .i64 mb, .slice a3 n1 k3, .slice a4 n2 k4, .int .u64 (mu : Int)])) _
                unfold execOp
                simp [Act.eval, h161, Sem.run_bind, hlo]) (fun _ _ _ _ h => h)
            · exact RhoOp.call (f := 10) rfl (fun r L b w2 hs hl hR hW => by
                have h158 : b.eval (.tmp 158) = .agg #[.int .i64 mp, .int .i64 me, .int .i64 mw, .int .i64 mx, .string md, .int .i64 mb, .slice a1 n1 k1, .slice a2 n2 k2, .int .u64 (mu : Int)] := hR.of (j := 0) (by decide) (by kernel_rfl)
                have h162 : b.eval (.tmp 162) = .agg #[.int .i64 mp, .int .i64 me, .int .i64 mw, .int .i64 mx, .string md, .int .i64 mb, .slice a3 n1 k3, .slice a4 n2 k4, .int .u64 (mu : Int)] := hR.of (j := 4) (by decide) (by kernel_rfl)
                simp only [Act.eval, Array.getD_eq_getD_getElem?] at h158 h162
                refine ⟨#[.agg #[.int .i64 mp, .int .i64 me, .int .i64 mw, .int .i64 mx, .string md, .int .i64 mb, .slice a1 n1 k1, .slice a2 n2 k2, .int .u64 (mu : Int)], .agg #[.int .i64 mp, .int .i64 me, .int .i64 mw, .int .i64 mx, .string md, .int .i64 mb, .slice a3 n1 k3, .slice a4 n2 k4, .int .u64 (mu : Int)]], ?_, ?_⟩
                · unfold execOp
                  simp [go_sem, h158, h162]
                · refine (HVA.out w2 hW).mono fun e w4 h => ?_
                  exact ⟨(), fun _ _ => rfl, h.1, hW.trans (h.2.mono hW.size)⟩)
            · exact RhoOp.pure rfl (fun r L b w2 hl hR hW => by
                have h163 : b.eval (.tmp 163) = .bool true := hR.of (j := 5) (by decide) (by kernel_rfl)
                simp only [Act.eval, Array.getD_eq_getD_getElem?] at h163
                show (execOp b.eval _).run _ _ = .ok (.value (.bool false)) _
                unfold execOp
                simp [go_sem, h163]) (fun _ _ _ _ h => h)
          · refine puts_as (ps := [(0, 158, .agg #[.int .i64 mp, .int .i64 me, .int .i64 mw, .int .i64 mx, .string md, .int .i64 mb, .slice a1 n1 k1, .slice a2 n2 k2, .int .u64 (mu : Int)]), (1, 159, .slice (some ⟨gM, oM, none⟩) N cM), (2, 160, .int .i64 (jj : Int)), (3, 161, .pointer (some ⟨gM, oM + jj * 9, none⟩)), (4, 162, .agg #[.int .i64 mp, .int .i64 me, .int .i64 mw, .int .i64 mx, .string md, .int .i64 mb, .slice a3 n1 k3, .slice a4 n2 k4, .int .u64 (mu : Int)]), (5, 163, .bool true), (6, 164, .bool false)]) rfl ?_
            simp only [puts, Act.put, List.setIfInBounds_toArray, List.set_cons_zero, List.set_cons_succ]
            have HB9 : Hid (Below wl5.heap.size wl5 w9) := HB8'.out.trans (hW9.mono HB8'.out.size)
            clear hW9
            go_wp2
            refine ⟨⟨jj + 1, by simp, by omega, HB9⟩, ?_⟩
            simp [intOf]
            omega
      · obtain rfl : jj = N := by omega
        have HBL : Hid (Below w3.heap.size w3 wr) := HL5.out.trans (HX.out.mono HL5.out.size)
        have HBW2 : Hid (Below w.heap.size w wr) := HB2.out.trans (HBL.out.mono HB2.out.size)
        clear HBW
        by_cases hN0 : jj = 0
        · have dN0 : ((jj : Int) == 0) = true := by rw [hN0]; rfl
          clear hN0
          go_wp2_with (fail)
          refine (HEND.out wr HBW2.out).mono ?_
          rintro e wq ⟨rfl, hb3⟩
          have HB3 := Lib.hid hb3
          clear hb3
          go_wp2
          go_ret
          exact ⟨rfl, HB3.out⟩
        have dN0 : ((jj : Int) == 0) = false := by rw [Bool.eq_false_iff]; intro h; have h4 := eq_of_beq h; omega
        have hve := HVE5.out.up (Keep.below HX.out)
        obtain ⟨gE, oE, cE', hee⟩ := hve.ptr HN2.out (by omega)
        injection hee with hee _ hee2
        subst hee hee2
        have HVX := Lib.hid hve
        have yc := HYL.out wr HX.out
        obtain ⟨r, hr, hpk⟩ := HCC.out jj (by omega) (by omega)
        have HPK := Lib.hid hpk
        have hr0 : (0 : Int) ≤ (r : Int) := by omega
        have hrL : (r : Int) < (jj : Int) := by omega
        have hwr : IntKind.i64.wrap (r : Int) = (r : Int) := by rw [IntKind.wrap_i64]; omega
        obtain ⟨m, hm⟩ : ∃ m, ms[r]? = some m := ⟨ms[r]'(by rw [HN.out]; exact hr), List.getElem?_eq_getElem _⟩
        have hmi := HMS.out m (List.mem_of_getElem? hm)
        have hmr : (ms.map (cmove K kk g))[r]? = some (cmove K kk g m) := by rw [List.getElem?_map, hm]; rfl
        obtain ⟨_, xd, xb, _⟩ := hve.cells r hmr
        obtain ⟨td, htd, htd0, htd1⟩ := cmove_form K kk g m
        have hnx := cnum_le hkK g m
        obtain ⟨nx, hnxe⟩ : ∃ n, cnum K kk g m = n := ⟨_, rfl⟩
        rw [hnxe] at hnx htd0
        rw [htd] at xd xb
        dsimp only at xd xb
        obtain ⟨mb, hmb⟩ : ∃ x, m.bad = x := ⟨_, rfl⟩
        obtain ⟨md, hmd⟩ : ∃ x, m.dst = x := ⟨_, rfl⟩
        rw [hmb] at xb htd0
        rw [hmd] at htd0 hmi
        have HTD := Lib.hid htd0
        have HMI := Lib.hid hmi
        have HNX := Lib.hid hnx
        clear hve hpk hm hmr htd htd0 htd1 hnx hnxe hmb hmd hmi hN0
        go_wp2_with (fail)
        refine (HPK.out wr).mono ?_
        rintro e wp ⟨rfl, rfl⟩
        by_cases hb0 : mb = 0
        · have db : (mb != 0) = false := by simpa using hb0
          have htj := HTD.out hb0
          clear hb0
          go_wp2_with (fail)
          refine (HPK.out wp).mono ?_
          rintro e wq ⟨rfl, rfl⟩
          have HSTN : Hid (∃ kk x, cstate K td = some (kk, x) ∧ td.size ≤ 1048576) := by
            have h1 := HNX.out
            have h2 := HMI.out.1
            rw [htj]
            refine ⟨nx, md, ?_, ?_⟩
            · unfold cstate
              rw [splitP_join (by omega)]
              dsimp only
              rw [if_pos h1.1]
            · have := enc_small (n := nx) (by omega)
              rw [joinS_size]
              omega
          clear htj
          go_wp2
          refine ⟨⟨i + 1, td, by simp, by simp, by omega, by omega, HSTN, HBL⟩, ?_⟩
          simp [intOf]
          omega
        · have db : (mb != 0) = true := by simpa using hb0
          clear hb0
          go_wp2_with (fail)
          refine (HEND.out wp HBW2.out).mono ?_
          rintro e w4 ⟨rfl, hb3⟩
          have HB3 := Lib.hid hb3
          clear hb3
          go_wp2
          go_ret
          exact ⟨rfl, HB3.out⟩
end Go.Proofs.Ytokkjifmgmngjaa.G
