/- The maker's memory; the walk of sets. -/
import Derived.Test.YtelanndleinabaaDoorJoin
namespace Go.Proofs.YtelanndleinabaaDoor
open Go.RowKit
set_option linter.unusedVariables false

/-- A row of ints that lies below β, or is owned. -/
def AnyI (β : Nat) (w : World) (v : Value) (xs : List Int) : Prop := RowI β w v xs ∨ (w.ownsRow β 3 1 v xs.length (ints xs) ∧ ∀ x ∈ xs, -9223372036854775808 ≤ x ∧ x ≤ 9223372036854775807)
theorem AnyI.read {β : Nat} {w : World} {v : Value} {xs : List Int} (h : AnyI β w v xs) (hβ : β ≤ w.heap.size) : RowI w.heap.size w v xs := by
  rcases h with h | ⟨h1, h2⟩
  · exact h.mono hβ
  · exact ⟨Row.of_owns h1, h2⟩
theorem AnyI.below {β : Nat} {w w' : World} {v : Value} {xs : List Int} (h : AnyI β w v xs) (hβ : β ≤ w.heap.size) (hb : Below w.heap.size w w') : AnyI β w' v xs := by
  rcases h with h | ⟨h1, h2⟩
  · exact .inl (h.below (hb.mono hβ))
  · exact .inr ⟨(Fr.of_below hb (fun _ => False)).owns h1 (fun _ _ h => h), h2⟩

def movesOf (sts : List ASt) (f : Int) : List AMv := (sts.getD f.toNat (false, [])).2
/-- Is a move in the set of a final state? -/
def inSet (sts : List ASt) (x : AMv) (f : Int) : Bool := !hasI x.to f || (movesOf sts f).any (awayB x f)
def setsFrom (sts : List ASt) (x : AMv) : Nat → List Int → Nat → Nat
  | _, [], acc => acc
  | i, f :: r, acc => setsFrom sts x (i + 1) r (if inSet sts x f then acc ||| 2 ^ i else acc)

attribute [local irreducible] wpStill
set_option maxHeartbeats 4000000 in
set_option maxRecDepth 100000 in
theorem setsFn (β M : Nat) (va vs vf vn vr vm : Value) (sts : List ASt) (fin : List Int) (x : AP) (w : World) (hT : Holds w M 84 [va, vs, vf, vn, vr, vm]) (hβ : β ≤ w.heap.size) (hS : RowS β w vs sts) (hF : w.ownsRow β 3 1 vf fin.length (ints fin))
    (hfin : ∀ f ∈ fin, 0 ≤ f ∧ f < (sts.length : Int)) (hfl : fin.length ≤ 60) (hsl : sts.length ≤ 4096) (hx : AnyI β w x.2 x.1.to) (hxb : x.1.yes < 18446744073709551616 ∧ x.1.no < 18446744073709551616) :
    Calls Tryd.prog 51 #[.pointer (some ⟨M, 0, none⟩), apVal x] w fun e w' => e = .returned (.int .u64 (setsFrom sts x.1 0 fin 0 : Nat)) ∧ Below w.heap.size w w' := by
  obtain ⟨⟨xy, xn, xt⟩, xv⟩ := x
  simp only [apVal] at *
  obtain ⟨a1, cap1, rfl, hc1, hm1⟩ := hS.form
  obtain ⟨a2, cap2, rfl, hc2, hm2⟩ := owns_form hF
  obtain ⟨a3, cap3, rfl, hc3, hm3⟩ := (hx.read hβ).form
  obtain ⟨n, hn⟩ : ∃ n, sts.length = n := ⟨_, rfl⟩
  obtain ⟨q, hq⟩ : ∃ q, fin.length = q := ⟨_, rfl⟩
  obtain ⟨p, hp⟩ : ∃ p, xt.length = p := ⟨_, rfl⟩
  rw [hn] at hc1 hS hT hsl
  rw [hq] at hc2 hF hT hfl
  rw [hp] at hc3 hx ⊢
  unfold maxLen at hm2
  have hB0 : Below w.heap.size w (w.alloc (.cells #[.int .u64 (xy : Int), .int .u64 (xn : Int), .slice a3 p cap3] 89)) := (Below.refl _ _).alloc (Nat.le_refl _) _
  have hH0 := Holds.new w 89 #[.int .u64 (xy : Int), .int .u64 (xn : Int), .slice a3 p cap3]
  have hx1 := hx.read hβ
  have hMlt := hT.lt
  have hT0 := hT.belowAll hB0
  have c1 := hT0.cell 1
  have c2 := hT0.cell 2
  simp only [List.getElem?_cons_zero, List.getElem?_cons_succ] at c1 c2
  have HN := Lib.hid hn
  have HQ := Lib.hid hq
  have HP := Lib.hid hp
  have HT := Lib.hid hT
  have HS := Lib.hid hS
  have HF := Lib.hid hF
  have HX := Lib.hid hx1
  have HFI := Lib.hid hfin
  obtain ⟨R, hR⟩ : ∃ R, setsFrom sts ⟨xy, xn, xt⟩ 0 fin 0 = R := ⟨_, rfl⟩
  rw [hR]
  have HR : Hid (setsFrom sts ⟨xy, xn, xt⟩ 0 (fin.drop 0) 0 = R) := hR
  clear hn hq hp hT hS hF hx hx1 hfin hR hT0
  go_enter Tryd.func51, Tryd.ntmps51
  go_wp2
  generalize w.alloc (.cells #[.int .u64 (xy : Int), .int .u64 (xn : Int), .slice a3 p cap3] 89) = W at *
  clear c1 c2
  go_loopw [5, 14] (fun s y wr => ∃ (k A : Nat), y = .int .i64 (k : Int) ∧ s = .int .u64 (A : Int) ∧ k ≤ q ∧ A < 18446744073709551616 ∧ Hid (setsFrom sts ⟨xy, xn, xt⟩ k (fin.drop k) A = R) ∧ Below W.heap.size W wr) (fun _ y _ => (q + 10 - intOf y).toNat)
  case atStart => exact ⟨0, 0, rfl, rfl, Nat.zero_le _, by omega, HR, Below.refl _ _⟩
  case round =>
    clear HR
    obtain ⟨k, A, rfl, rfl, hk, hA, HK, hB⟩ := hrel
    have hBw := hB0.trans (hB.mono hB0.size)
    by_cases hl : k < q
    · have hl' : (k : Int) < (q : Int) := by omega
      obtain ⟨f, hfq⟩ : ∃ f, fin[k]? = some f := ⟨_, List.getElem?_eq_getElem (by rw [HQ.out]; exact hl)⟩
      obtain ⟨f0, f1⟩ := HFI.out f (List.mem_of_getElem? hfq)
      obtain ⟨gf, rfl, hgf1, hgf2, _, _, hcf, _⟩ := owns_head HF.out (by omega)
      have hcell : wr.cell? ⟨gf, k, none⟩ = some (.int .i64 f) := by
        rw [cell_below hBw hgf2 k, hcf k (by omega)]
        unfold ints
        rw [List.getElem?_map, hfq]; rfl
      obtain ⟨F, hF⟩ : ∃ F : Nat, f = (F : Int) := ⟨f.toNat, by omega⟩
      have hdr := drop_at hfq
      rw [hF] at hdr hcell f1
      rw [HN.out] at f1
      have hFn : F < n := by omega
      have HDR := Lib.hid hdr
      have hBa := hBw.alloc hBw.size (.cells #[.int .i64 (F : Int)] 3)
      have hB2 := hB.alloc hB.size (.cells #[.int .i64 (F : Int)] 3)
      have hHf := Holds.new wr 3 #[.int .i64 (F : Int)]
      have hlw := hHf.lt
      clear hcf hfq hdr f0 hF
      go_wp2
      have hbf : wr.heap.size < (wr.alloc (.cells #[.int .i64 (F : Int)] 3)).heap.size := hlw
      have hws : w.heap.size < W.heap.size := hH0.lt
      have hwr : W.heap.size ≤ wr.heap.size := hB.size
      generalize wr.alloc (.cells #[.int .i64 (F : Int)] 3) = W2 at *
      obtain ⟨bf, hbfe⟩ : ∃ bf, wr.heap.size = bf := ⟨_, rfl⟩
      rw [hbfe] at hHf hbf hwr
      simp only [hbfe]
      clear hbfe hlw hcell
      have hH2 := hH0.belowAll hB2
      have z0 := hH2.cell 0
      have z1 := hH2.cell 1
      have z2 := hH2.cell 2
      simp only [List.getElem?_cons_zero, List.getElem?_cons_succ] at z0 z1 z2
      have y0 := hHf.cell 0
      simp only [List.getElem?_cons_zero] at y0
      have hT2 := HT.out.belowAll hBa
      have t1 := hT2.cell 1
      simp only [List.getElem?_cons_zero, List.getElem?_cons_succ] at t1
      have hXW : RowI W2.heap.size W2 (.slice a3 p cap3) xt := (HX.out.below hBa).mono hBa.size
      have hstep : setsFrom sts ⟨xy, xn, xt⟩ (k + 1) (fin.drop (k + 1)) (if inSet sts ⟨xy, xn, xt⟩ (F : Int) then A ||| 2 ^ k else A) = R := by
        rw [← HK.out, HDR.out]; rfl
      have hk60 : k ≤ 60 := by omega
      have hpow : (2 : Int) ^ k = ((2 ^ k : Nat) : Int) := by norm_cast
      have hpl : 2 ^ k < 18446744073709551616 := Nat.lt_of_le_of_lt (Nat.pow_le_pow_right (by omega) hk60) (by decide)
      have hp0 : 0 < 2 ^ k := Nat.two_pow_pos k
      have hShl : IntKind.u64.wrap ((2 : Int) ^ k) = ((2 ^ k : Nat) : Int) := by rw [hpow, IntKind.wrap_u64]; omega
      have hor := bits_or_u64_nat A (2 ^ k) hA hpl
      have hor2 : A ||| 2 ^ k < 18446744073709551616 := by
        have : A ||| 2 ^ k < 2 ^ 64 := Nat.or_lt_two_pow hA hpl
        exact this
      have HSTEP := Lib.hid hstep
      have hisd : inSet sts ⟨xy, xn, xt⟩ (F : Int) = (!hasI xt (F : Int) || (movesOf sts (F : Int)).any (awayB ⟨xy, xn, xt⟩ (F : Int))) := rfl
      have HISD := Lib.hid hisd
      clear hstep hisd hpow hp0
      generalize inSet sts ⟨xy, xn, xt⟩ (F : Int) = IS at HSTEP HISD
      have HKT : Hid (IS = true → setsFrom sts ⟨xy, xn, xt⟩ (k + 1) (fin.drop (k + 1)) (A ||| 2 ^ k) = R) := fun h => by
        have := HSTEP.out
        rw [h] at this; exact this
      have HKF : Hid (IS = false → setsFrom sts ⟨xy, xn, xt⟩ (k + 1) (fin.drop (k + 1)) A = R) := fun h => by
        have := HSTEP.out
        rw [h] at this; exact this
      clear HSTEP
      generalize 2 ^ k = P2 at hShl hor hor2 hpl HKT
      have hC := containsInt (F : Int) W2.heap.size (.slice a3 p cap3) xt W2.drew hXW
      generalize hhs : (xt.any fun y => (F : Int) == y) = hs at hC
      have hhs' : hasI xt (F : Int) = hs := hhs
      rw [hhs'] at HISD
      have HC := Lib.hid hC
      have hBd := hBa.drew
      have hB2d := hB2.drew
      clear hC hhs hhs' hT2 hH2
      cases hs with
      | false =>
        have hIS : IS = true := by rw [HISD.out]; rfl
        subst hIS
        have HKN := Lib.hid (HKT.out rfl)
        have HSHL := Lib.hid hShl
        have HOR := Lib.hid hor
        have HOR2 := Lib.hid hor2
        clear HKF HKT HISD hXW hm1 hm2 hm3 hc1 hc2 hc3 hsl hpl hShl hor hor2 hA f1 hFn hgf1 hgf2 hws hwr hbf hxb
        refine region_tail 16 (by kernel_rfl) (by kernel_rfl) ?_
        simp only [List.take_succ_cons, List.take_zero, List.drop_succ_cons, List.drop_zero]
        repeat still_step
        still_call HC.out
        repeat still_step
        refine wpStill_nil ?_
        clear z0 z1 z2 y0 t1
        have hShl := HSHL.out
        have hor := HOR.out
        have hor2 := HOR2.out
        generalize W2.drew = W3 at *
        go_wp2
        exact ⟨⟨k + 1, A ||| P2, rfl, rfl, by omega, hor2, HKN, hB2d⟩, by simp [intOf]; omega⟩
      | true =>
        obtain ⟨gs, os, us, hgs0, hgs, _, hcu0, hru⟩ := HS.out.at (k := F) (by rw [HN.out]; exact hFn)
        have hmv : movesOf sts (F : Int) = (sts[F]'(by rw [HN.out]; exact hFn)).2 := by
          unfold movesOf
          rw [Int.toNat_natCast, List.getD_eq_getElem?_getD, List.getElem?_eq_getElem (by rw [HN.out]; exact hFn), Option.getD_some]
        rw [← hmv] at hru
        have hcu := (cell_below hBa (Nat.lt_of_lt_of_le hgs hβ) _).trans hcu0
        have hru2 := (hru.below (hBa.mono hβ)).mono (Nat.le_trans hβ hBa.size)
        obtain ⟨ps, hps, hrp, hpe⟩ := hru2
        have hCF := containsFuncP 60 #[.pointer (some ⟨w.heap.size, 0, none⟩), .pointer (some ⟨bf, 0, none⟩)] enters60 (fun p => awayB ⟨xy, xn, xt⟩ (F : Int) p.1) us ps W2.drew hrp (fun w' hb' y hy => by
          obtain ⟨e1, e2, e3⟩ := hpe y hy
          have hb'' : Below W2.heap.size W2 w' := (Below.refl _ _).drew.trans hb'
          refine sets1 (⟨xy, xn, xt⟩, .slice a3 p cap3) y (F : Int) w.heap.size bf w' ?_ ?_ ?_ ?_ ?_ ?_ hxb.1 hxb.2 e2 e3 (by have := hb''.size; omega) (by have := hb''.size; omega)
          · exact (cell_below hb'' (by omega) _).trans z0
          · exact (cell_below hb'' (by omega) _).trans z1
          · exact (cell_below hb'' (by omega) _).trans z2
          · exact (cell_below hb'' (by omega) _).trans y0
          · exact (hXW.below hb'').mono hb''.size
          · exact (e1.below hb'').mono hb''.size)
        have hany : (ps.any fun p => awayB ⟨xy, xn, xt⟩ (F : Int) p.1) = (movesOf sts (F : Int)).any (awayB ⟨xy, xn, xt⟩ (F : Int)) := by rw [← hps, List.any_map]; rfl
        rw [hany] at hCF
        generalize (movesOf sts (F : Int)).any (awayB ⟨xy, xn, xt⟩ (F : Int)) = aw at hCF HISD
        have hIS : IS = aw := by rw [HISD.out]; simp
        have HCF := Lib.hid hCF
        obtain ⟨am, cm, rfl, hcm1, hcm2⟩ := hrp.form
        obtain ⟨nm, hnm⟩ : ∃ nm, ps.length = nm := ⟨_, rfl⟩
        rw [hnm] at HCF hcu
        subst hIS
        subst hgs0
        have hFn' : (F : Int) < (n : Int) := f1
        clear HISD hXW hCF hany hps hpe hrp hcu0 hru hmv hcm1 hnm
        refine region_tail 16 (by kernel_rfl) (by kernel_rfl) ?_
        simp only [List.take_succ_cons, List.take_zero, List.drop_succ_cons, List.drop_zero]
        repeat still_step
        still_call HC.out
        repeat still_step
        refine wpStill_nil ?_
        clear z0 z1 z2 y0 t1
        go_wp2_with (fail)
        refine (HCF.out).mono ?_
        rintro e W5 ⟨rfl, hb5⟩
        have hB5 := hB2d.trans (hb5.mono hB2d.size)
        clear HCF hb5
        cases IS with
        | true =>
          have HKN := Lib.hid (HKT.out rfl)
          clear HKF HKT
          go_wp2
          exact ⟨⟨k + 1, A ||| P2, rfl, rfl, by omega, hor2, HKN, hB5⟩, by simp [intOf]; omega⟩
        | false =>
          have HKN := Lib.hid (HKF.out rfl)
          clear HKF HKT
          go_wp2
          exact ⟨⟨k + 1, A, rfl, rfl, by omega, hA, HKN, hB5⟩, by simp [intOf]; omega⟩
    · have hl' : decide ((k : Int) < (q : Int)) = false := decide_eq_false (by omega)
      have hres : A = R := by
        rw [← HK.out, List.drop_eq_nil_of_le (by rw [HQ.out]; omega)]; rfl
      go_wp2
      go_ret
      rw [hres]
      exact ⟨rfl, hBw⟩
end Go.Proofs.YtelanndleinabaaDoor
