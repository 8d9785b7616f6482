/- The walk of named (printed by mkexp8.py). -/
import Derived.Test.YtpoghableadkcaaGreatDoorExp7
import Derived.Deep.DeepCutAuto
namespace Go.Proofs.YtpoghableadkcaaGreatDoor
open Go.RowKit
set_option linter.unusedVariables false
set_option linter.unusedSimpArgs false

/-- What is read is so. -/
def Im {A:Type} (Q:A→Prop) (r:R A):Prop:=∀ a j,r=.ok a j→Q a
section
variable {A B:Type} {r:R A} {E:Env}
theorem Im.bd {Q:B→Prop} {f:A→Nat→R B} (h:∀ a j,r=.ok a j→Im Q (f a j)):Im Q (r.bd f):=by
 intro b m hb
 cases r with
 | out=>cases hb
 | bad c a=>cases hb
 | ok a j=>exact h a j rfl b m hb
theorem Im.ok {Q:A→Prop} {a:A} {j:Nat} (h:Q a):Im Q (.ok a j):=by
 intro b m hb
 injection hb with hb _
 rw [← hb];exact h
theorem Im.ite {Q:A→Prop} {c:Prop} [Decidable c] {x y:R A} (hx:c→Im Q x) (hy:¬ c→Im Q y):Im Q (if c then x else y):=by
 split
 ·exact hx ‹_›
 ·exact hy ‹_›
end
def RfOk (r:Rf):Prop:=0 < r.names.length∧r.has.length=r.names.length∧r.index.length=r.names.length
theorem ref_len {E:Env}:∀ (f i:Nat),Im RfOk (ref E f i)
 | 0,i=>fun a j h=>by rw [ref] at h;cases h
 | f + 1,i=>by
  rw [ref]
  refine Im.bd fun n j hj=>Im.bd fun p k hk=>Im.ite (fun hs=>Im.bd fun r m hm=>Im.ok ?_) fun _=>Im.ok ⟨by simp,by simp,by simp⟩
  have h:=ref_len f _ _ _ hm
  exact ⟨by simp,by simp [h.2.1],by simp [h.2.2]⟩
theorem AstF.poll {P:Nat→Prop} {w:World} {k:Nat} {n:Int} {s t:Bs} {r:Rf} {l:List Arg} {vn vi vh va:Value} (h:RfF P w r vn vi vh) (ha:ArgsV P w va l):AstF P w (.mk k n s t r.names r.index r.has [] l) vn vi vh (.slice none 0 0) va:=by
 rw [AstF]
 exact ⟨h.1,h.2.1,h.2.2,⟨[],RowL.nil _ _ _,by rw [AstsF]⟩,ha⟩

set_option maxHeartbeats 1000000 in
set_option maxRecDepth 100000 in
theorem namedFn {E:Env} {f:Nat} (ih:ExprOk E f) {w:World} {p i:Nat} {vl:Value} (hP:Par w p vl E i) (hne:named E (f + 1) i ≠ .out):
  Calls Tryz.prog 144 #[.pointer (some ⟨p,0,none⟩)] w (Out p vl E w (AstV (From w.heap.size)) (named E (f + 1) i)):=by

 have hp1:=hP.lt
 have hfew:=hP.few
 have hb0:Below w.heap.size w (w.alloc (.cells #[.int .i64 0,.int .i64 0,.string ⟨#[]⟩,.string ⟨#[]⟩,.slice none 0 0,.slice none 0 0,.slice none 0 0,.slice none 0 0,.slice none 0 0] 41)):=(Below.refl _ _).alloc (Nat.le_refl _) _
 have HP0:=Lib.hid (hP.belowAll hb0)
 have HB0:=Lib.hid (Holds.new w 41 #[.int .i64 0,.int .i64 0,.string ⟨#[]⟩,.string ⟨#[]⟩,.slice none 0 0,.slice none 0 0,.slice none 0 0,.slice none 0 0,.slice none 0 0])
 have HF0:=Lib.hid (Fp.of_below (p:=p) hb0)
 obtain ⟨Rr,hRr⟩:∃ Rr,named E (f + 1) i=Rr:=⟨_,rfl⟩
 rw [hRr] at hne ⊢
 have HNE:=Lib.hid hne
 rw [named] at hRr
 have hi2:i ≤ 65536:=Nat.le_trans hP.le hfew
 clear hP hb0 hne
 go_enter Tryz.func144,Tryz.ntmps144
 have HC':=ih.ref HP0.out (fun h=>by rw [h] at hRr;exact HNE.out hRr.symm)
 cases h1:ref E f i with
 | out=>exact absurd h1 (fun h=>by rw [h] at hRr;exact HNE.out hRr.symm)
 | bad c a=>
  rw [h1] at HC' hRr
  have HC:=Lib.hid HC'
  have HR:=Lib.hid hRr
  clear h1 HC' hRr 
  go_wp2_with (fail)
  refine (HC.out).mono ?_
  rintro e wz ⟨rfl,hF⟩
  rw [← HR.out]
  exact ⟨rfl,rfl,HF0.out.trans hF⟩
 | ok x j2=>
  have HRL:=Lib.hid (ref_len f i _ _ h1)
  rw [h1] at HC' hRr
  have HC:=Lib.hid HC'
  have HR:=Lib.hid hRr
  clear h1 HC' hRr
  go_wp2_with (fail)
  refine (HC.out).mono ?_
  rintro e w11 ⟨vw11,rfl,⟨vn,vi,vh,rfl,hv⟩,hPq,hFq⟩
  have hRr:=HR.out
  try simp only [R.bd] at hRr
  have HP11:=Lib.hid hPq
  have HF11:=Lib.hid (HF0.out.trans hFq)
  have HB11:=Lib.hid (HB0.out.fp hFq (by omega))
  clear HP0 HF0 HB0
  clear hPq hFq HR HC
  have hvr:=hv
  obtain ⟨hN,⟨fi,hI,hIf⟩,hH⟩:=hv
  obtain ⟨hl1,hl2,hl3⟩:=HRL.out
  obtain ⟨nn,hnn⟩:∃ nn,x.names.length=nn:=⟨_,rfl⟩
  rw [hl3,hnn] at hI
  rw [hl2,hnn] at hH
  rw [hnn] at hN hl1
  obtain ⟨an,cn,rfl,hn1,hn2,hn3,hn4,hn5⟩:=hN
  obtain ⟨gn,on,csn,tn,rfl,hgn,hNh,hnc⟩:=hn5 hl1
  obtain ⟨ai,ci,rfl,hi3,hi4,_⟩:=hI.form
  obtain ⟨ah,ch,rfl,hh1,hh2,hh3,hh4,hh5⟩:=hH
  obtain ⟨gh,oh,csh,th,rfl,hgh,hHh,hhc⟩:=hh5 hl1
  obtain ⟨nm,hnm⟩:∃ nm,x.names.head?.getD []=nm:=⟨_,rfl⟩
  obtain ⟨hd,hhd⟩:∃ hd,x.has.head?.getD false=hd:=⟨_,rfl⟩
  have HNM:=Lib.hid hnm
  have HNC:Hid (csn[on]?=some (.string ⟨nm.toArray⟩)):=by
   have h:=hnc 0 (by omega)
   show _=_
   rw [Nat.add_zero] at h
   rw [h,← hnm]
   cases hx:x.names with
   | nil=>rw [hx] at hnn;simp at hnn;omega
   | cons a l=>rfl
  have HHC:Hid (csh[oh]?=some (.bool hd)):=by
   have h:=hhc 0 (by omega)
   show _=_
   rw [Nat.add_zero] at h
   rw [h,← hhd]
   cases hx:x.has with
   | nil=>rw [hx] at hl2;simp at hl2;omega
   | cons a l=>rfl
  have hgn2:w.heap.size + 1 ≤ gn:=by have h:(w.alloc (.cells #[.int .i64 0,.int .i64 0,.string ⟨#[]⟩,.string ⟨#[]⟩,.slice none 0 0,.slice none 0 0,.slice none 0 0,.slice none 0 0,.slice none 0 0] 41)).heap.size ≤ gn:=hgn;simp at h;exact h
  have hgh2:w.heap.size + 1 ≤ gh:=by have h:(w.alloc (.cells #[.int .i64 0,.int .i64 0,.string ⟨#[]⟩,.string ⟨#[]⟩,.slice none 0 0,.slice none 0 0,.slice none 0 0,.slice none 0 0,.slice none 0 0] 41)).heap.size ≤ gh:=hgh;simp at h;exact h
  have HV11:=Lib.hid (show RfF (From (w.heap.size + 1)) w11 x _ _ _ from RfF.mono hvr (fun k hk hs=>by have h:(w.alloc (.cells #[.int .i64 0,.int .i64 0,.string ⟨#[]⟩,.string ⟨#[]⟩,.slice none 0 0,.slice none 0 0,.slice none 0 0,.slice none 0 0,.slice none 0 0] 41)).heap.size ≤ k:=hk;simp at h;exact h))
  have HN11:=Lib.hid hNh
  have HG11:=Lib.hid hHh
  have hj2:j2 ≤ 65536:=Nat.le_trans HP11.out.le HP11.out.few
  have hwq:w.heap.size < w11.heap.size:=HB11.out.lt
  rw [hhd,hnn] at hRr
  clear hvr hI hIf hn1 hn2 hn3 hn4 hn5 hgn hNh hnc hh1 hh2 hh3 hh4 hh5 hgh hHh hhc hnm hhd hnn hl2 hl3 hi3 hi4 HRL
  have hba:Below w11.heap.size w11 (w11.alloc (.cells #[.slice (some ⟨gn,on,none⟩) nn cn,.slice ai nn ci,.slice (some ⟨gh,oh,none⟩) nn ch] 38)):=(Below.refl _ _).alloc (Nat.le_refl _) _
  have hbn:=Holds.new w11 38 #[.slice (some ⟨gn,on,none⟩) nn cn,.slice ai nn ci,.slice (some ⟨gh,oh,none⟩) nn ch]
  have HP12:=Lib.hid (HP11.out.belowAll hba)
  have HF12:=Lib.hid (HF11.out.bel hba)
  have HB12:=Lib.hid (HB11.out.belowAll hba)
  have HN12:=Lib.hid (HN11.out.belowAll hba)
  have HG12:=Lib.hid (HG11.out.belowAll hba)
  have HV12:=Lib.hid (HV11.out.up (Keep.below hba))
  clear HP11 HF11 HB11 HN11 HG11 HV11
  have HR12:=Lib.hid hbn
  clear hbn
  clear hba
  have HRr:=Lib.hid hRr
  clear hRr
  go_upto_region 2 with (fail)
  obtain ⟨w13,hW13⟩:∃ W,W=(w11.alloc (.cells #[.slice (some ⟨gn,on,none⟩) nn cn,.slice ai nn ci,.slice (some ⟨gh,oh,none⟩) nn ch] 38)):=⟨_,rfl⟩
  rw [← hW13] at HP12 HF12 HB12 HN12 HG12 HR12 HV12
  rw [← hW13]
  clear hW13
  have hRr:=HRr.out
  clear HRr
  go_cut [7] (fun s7 wx=>∃ q:Bool,s7=.bool q∧Hid ((sees E j2 [[64]] && decide (nn=1) && hd)=q)∧Hid (Below w13.heap.size w13 wx))
  case first=>
   have hL:=Holds.new w13 9 #[.string ⟨#[64]⟩]
   have HL:=Lib.hid hL
   clear hL
   have hba:Below w13.heap.size w13 (w13.alloc (.cells #[.string ⟨#[64]⟩] 9)):=(Below.refl _ _).alloc (Nat.le_refl _) _
   have HP14:=Lib.hid (HP12.out.belowAll hba)
   have HF14:=Lib.hid (HF12.out.bel hba)
   have HB14:=Lib.hid (HB12.out.belowAll hba)
   have HN14:=Lib.hid (HN12.out.belowAll hba)
   have HG14:=Lib.hid (HG12.out.belowAll hba)
   have HR14:=Lib.hid (HR12.out.belowAll hba)
   have HV14:=Lib.hid (HV12.out.up (Keep.below hba))
   clear HP12 HF12 HB12 HN12 HG12 HR12 HV12
   clear hba
   have hbr:Below w13.heap.size w13 (w13.alloc (.cells #[.string ⟨#[64]⟩] 9)):=(Below.refl _ _).alloc (Nat.le_refl _) _
   cases hs:sees E j2 [[64]] with
   | true=>
    have hT:=sees0 HP14.out [[64]] HL.out (by simp)
    rw [hs] at hT
    have HT:=Lib.hid hT
    have HS1:=Lib.hid hs
    clear hT HL hRr hs
    go_wp2_with (fail)
    refine (HT.out).mono ?_
    rintro e ws ⟨rfl,hbq⟩
    have HBz:=Lib.hid (hbr.trans (hbq.mono hbr.size))
    have HPws:=Lib.hid (HP14.out.belowAll hbq)
    have HFws:=Lib.hid (HF14.out.bel hbq)
    have HBws:=Lib.hid (HB14.out.belowAll hbq)
    have HNws:=Lib.hid (HN14.out.belowAll hbq)
    have HGws:=Lib.hid (HG14.out.belowAll hbq)
    have HRws:=Lib.hid (HR14.out.belowAll hbq)
    have HVws:=Lib.hid (HV14.out.up (Keep.below hbq))
    clear HP14 HF14 HB14 HN14 HG14 HR14 HV14
    clear hbq hbr HT
    have r0:ws.cell? ⟨w11.heap.size,0,none⟩=some (.slice (some ⟨gn,on,none⟩) nn cn):=HRws.out.cell 0
    have r1:ws.cell? ⟨w11.heap.size,1,none⟩=some (.slice ai nn ci):=HRws.out.cell 1
    have r2:ws.cell? ⟨w11.heap.size,2,none⟩=some (.slice (some ⟨gh,oh,none⟩) nn ch):=HRws.out.cell 2
    by_cases hn:nn=1
    ·subst hn
     have hc0:ws.cell? ⟨gh,oh,none⟩=some (.bool hd):=by have h:=HGws.out.cell oh;rw [HHC.out] at h;exact h
     have hc1:ws.cell? ⟨gh,oh + 0,none⟩=some (.bool hd):=hc0
     go_wp2
     go_meet
     case rel=>exact ⟨hd,rfl,by show _=_;rw [HS1.out];simp,HBz⟩
    ·have hn2:((nn:Int) == 1)=false:=by simp;omega
     have HN3:=Lib.hid hn
     clear hn
     go_wp2
     go_meet
     case rel=>exact ⟨false,rfl,by show _=_;simp [HN3.out],HBz⟩
   | false=>
    have hT:=sees0 HP14.out [[64]] HL.out (by simp)
    rw [hs] at hT
    have HT:=Lib.hid hT
    have HS1:=Lib.hid hs
    clear hT HL hRr hs
    go_wp2_with (fail)
    refine (HT.out).mono ?_
    rintro e ws ⟨rfl,hbq⟩
    have HBz:=Lib.hid (hbr.trans (hbq.mono hbr.size))
    have HPws:=Lib.hid (HP14.out.belowAll hbq)
    have HFws:=Lib.hid (HF14.out.bel hbq)
    have HBws:=Lib.hid (HB14.out.belowAll hbq)
    have HNws:=Lib.hid (HN14.out.belowAll hbq)
    have HGws:=Lib.hid (HG14.out.belowAll hbq)
    have HRws:=Lib.hid (HR14.out.belowAll hbq)
    have HVws:=Lib.hid (HV14.out.up (Keep.below hbq))
    clear HP14 HF14 HB14 HN14 HG14 HR14 HV14
    clear hbq hbr HT
    go_wp2
    go_meet
    case rel=>exact ⟨false,rfl,by show _=_;rw [HS1.out];simp,HBz⟩
  case rest=>
   obtain ⟨cb,rfl,HCB,HBel⟩:=hcut
   have hbc:=HBel.out
   have HPc:=Lib.hid (HP12.out.belowAll hbc)
   have HFc:=Lib.hid (HF12.out.bel hbc)
   have HBc:=Lib.hid (HB12.out.belowAll hbc)
   have HNc:=Lib.hid (HN12.out.belowAll hbc)
   have HGc:=Lib.hid (HG12.out.belowAll hbc)
   have HRc:=Lib.hid (HR12.out.belowAll hbc)
   have HVc:=Lib.hid (HV12.out.up (Keep.below hbc))
   clear HP12 HF12 HB12 HN12 HG12 HR12 HV12
   clear hbc HBel
   have hcb:=HCB.out
   cases cb with
   | true=>
    have hc3:=hcb
    simp only [Bool.and_eq_true,decide_eq_true_eq] at hc3
    obtain ⟨⟨hsA,hnA⟩,hdA⟩:=hc3
    subst hnA
    subst hdA
    rw [if_pos hcb] at hRr
    have HAT:=Lib.hid (sees_lt hsA)
    clear hcb HCB hsA
    obtain ⟨c0,c1,c2,f2⟩:=HPc.out.cells
    obtain ⟨w15,hW15⟩:∃ W,W=wc.setCell ⟨p,2,none⟩ (.int .i64 ((j2:Int) + 1)):=⟨_,rfl⟩
    have hPx:=HPc.out.set (j:=j2 + 1) HAT.out
    have hPy:Par (wc.setCell ⟨p,2,none⟩ (.int .i64 ((j2:Int) + 1))) p vl E (j2 + 1):=hPx
    clear hPx
    rw [← hW15] at hPy
    have HP15:=Lib.hid hPy
    clear hPy
    have hFy:=HFc.out.set 2 (.int .i64 ((j2:Int) + 1))
    rw [← hW15] at hFy
    have HF15:=Lib.hid hFy
    clear hFy
    have hy:=HBc.out.far (p:=⟨p,2,none⟩) (show ¬ _=p by omega) (.int .i64 ((j2:Int) + 1))
    rw [← hW15] at hy
    have HB15:=Lib.hid hy
    clear hy
    have hy:=HNc.out.far (p:=⟨p,2,none⟩) (show ¬ _=p by omega) (.int .i64 ((j2:Int) + 1))
    rw [← hW15] at hy
    have HN15:=Lib.hid hy
    clear hy
    have hy:=HGc.out.far (p:=⟨p,2,none⟩) (show ¬ _=p by omega) (.int .i64 ((j2:Int) + 1))
    rw [← hW15] at hy
    have HG15:=Lib.hid hy
    clear hy
    have hy:=HRc.out.far (p:=⟨p,2,none⟩) (show ¬ _=p by omega) (.int .i64 ((j2:Int) + 1))
    rw [← hW15] at hy
    have HR15:=Lib.hid hy
    clear hy
    have hy:=HVc.out.up (Keep.of_fp ((Fp.refl p wc).set 2 (.int .i64 ((j2:Int) + 1))) (by show ¬ _;omega))
    rw [← hW15] at hy
    have HV15:=Lib.hid hy
    clear hy
    clear HPc HFc HBc HNc HGc HRc HVc
    have HRr:=Lib.hid hRr
    clear hRr
    go_wp2
    rw [← hW15]
    clear c0 c1 c2 f2 hW15
    have hRr:=HRr.out
    clear HRr
    have hC':=idFn HP15.out.drew
    have hnc:w15.cell? ⟨gn,on,none⟩=some (.string ⟨nm.toArray⟩):=by have h:=HN15.out.cell on;rw [HNC.out] at h;exact h
    have r0:w15.cell? ⟨w11.heap.size,0,none⟩=some (.slice (some ⟨gn,on,none⟩) 1 cn):=HR15.out.cell 0
    have r1:w15.cell? ⟨w11.heap.size,1,none⟩=some (.slice ai 1 ci):=HR15.out.cell 1
    have r2:w15.cell? ⟨w11.heap.size,2,none⟩=some (.slice (some ⟨gh,oh,none⟩) 1 ch):=HR15.out.cell 2
    have HS0:Hid (F2 p w.heap.size w15 w15):=F2.rfl_
    have l0:∀ w',F2 p w.heap.size w15 w'→w'.cell? ⟨w11.heap.size,0,none⟩=some (.slice (some ⟨gn,on,none⟩) 1 cn):=fun w' h=>(h.holds HR15.out (by omega) (by omega)).cell 0
    have l1:∀ w',F2 p w.heap.size w15 w'→w'.cell? ⟨w11.heap.size,1,none⟩=some (.slice ai 1 ci):=fun w' h=>(h.holds HR15.out (by omega) (by omega)).cell 1
    have l2:∀ w',F2 p w.heap.size w15 w'→w'.cell? ⟨w11.heap.size,2,none⟩=some (.slice (some ⟨gh,oh,none⟩) 1 ch):=fun w' h=>(h.holds HR15.out (by omega) (by omega)).cell 2
    have ln:∀ w',F2 p w.heap.size w15 w'→w'.cell? ⟨gn,on,none⟩=some (.string ⟨nm.toArray⟩):=fun w' h=>by have h:=(h.holds HN15.out (by omega) (by omega)).cell on;rw [HNC.out] at h;exact h
    cases h1:pid E (j2 + 1) with
    | out=>exact absurd h1 pid_ne
    | bad c a=>
     rw [h1] at hC' hRr
     have HC:=Lib.hid hC'
     have HR:=Lib.hid hRr
     clear h1 hC' hRr
     go_wp2
     go_region_dies
     all_goals (
      refine (HC.out).mono ?_
      rintro e wz ⟨rfl,hF⟩
      rw [← HR.out]
      exact ⟨rfl,rfl,Fp.trans HF15.out.drew hF⟩)
    | ok s k=>
     rw [h1] at hC' hRr
     have HC:=Lib.hid hC'
     have HQ:=Lib.hid hRr
     clear h1 hC' hRr ih
     go_wp2
     go_region_held3 (fun w':World=>F2 p w.heap.size w15 w') (repeat' first | (with_reducible exact HS0.out) | (with_reducible exact hS6.out) | with_reducible apply F2.drew | with_reducible apply F2.alloc | with_reducible apply F2.setb) (first | (go_at_call 52;refine (HC.out).mono ?_;rintro e w6 ⟨v6,rfl,hv6,hP6,hF6⟩;obtain rfl:=hv6;have HP6:=Lib.hid hP6;have HF6:=Lib.hid (Fp.trans (Fp.refl p w15).drew hF6);have hS6:=Lib.hid (F2.of_fp (b:=w.heap.size) HF6.out);have hB6:=HB15.out.fp HF6.out (by omega);obtain ⟨d0,d1,d2,d3,d4,d5,d6,d7,d8⟩:=hB6.cells9;obtain ⟨g0,g1,g2,g3,g4,g5,g6,g7,g8⟩:=hB6.free9;clear hB6 hP6 hF6))
     have hRr:=HQ.out
     try simp only [R.bd] at hRr
     have hF6:=HF6.out
     have HPr6:=Lib.hid HP6.out
     have HFr6:=Lib.hid (HF15.out.trans hF6)
     have HBr6:=Lib.hid (HB15.out.fp hF6 (by omega))
     have HNr6:=Lib.hid (HN15.out.fp hF6 (by omega))
     have HGr6:=Lib.hid (HG15.out.fp hF6 (by omega))
     have HRr6:=Lib.hid (HR15.out.fp hF6 (by omega))
     have HVr6:=Lib.hid (HV15.out.up (Keep.of_fp hF6 (by show ¬ _;omega)))
     clear HP15 HF15 HB15 HN15 HG15 HR15 HV15
     have HZ:=Lib.hid hRr
     clear hF6 hRr
     go_wp2
     exact ast_end2 (x:=.atP nm s x.index) (P:=From (w.heap.size + 1)) Tryz.results144 rfl rfl HBr6.out (by unfold Ast.atP;exact AstF.kids HVr6.out.2.1) (by show ¬ _;omega) (by intro k hk;have hk2:_ ≤ k:=hk;omega) (Nat.le_refl _) hp1 HPr6.out HFr6.out (by rw [← HZ.out,HNM.out]) rfl rfl rfl rfl
   | false=>
    rw [if_neg (by rw [hcb];decide)] at hRr
    clear hcb HCB
    have hL:=Holds.new wc 9 #[.string ⟨#[63]⟩,.string ⟨#[63,63]⟩]
    have HL:=Lib.hid hL
    clear hL
    have hba:Below wc.heap.size wc (wc.alloc (.cells #[.string ⟨#[63]⟩,.string ⟨#[63,63]⟩] 9)):=(Below.refl _ _).alloc (Nat.le_refl _) _
    have HP16:=Lib.hid (HPc.out.belowAll hba)
    have HF16:=Lib.hid (HFc.out.bel hba)
    have HB16:=Lib.hid (HBc.out.belowAll hba)
    have HN16:=Lib.hid (HNc.out.belowAll hba)
    have HG16:=Lib.hid (HGc.out.belowAll hba)
    have HR16:=Lib.hid (HRc.out.belowAll hba)
    have HV16:=Lib.hid (HVc.out.up (Keep.below hba))
    clear HPc HFc HBc HNc HGc HRc HVc
    clear hba
    cases hs:sees E j2 [[63],[63,63]] with
    | true=>
     have hs1:=hs
     have hT:=sees0 HP16.out [[63],[63,63]] HL.out (by simp)
     rw [hs] at hT
     have HT:=Lib.hid hT
     clear hT HL
     have HQ:=Lib.hid hRr
     clear hRr
     go_wp2_with (fail)
     refine (HT.out).mono ?_
     rintro e w17 ⟨rfl,hbq⟩
     have hRr:=HQ.out
     clear HQ
     have HP17:=Lib.hid (HP16.out.belowAll hbq)
     have HF17:=Lib.hid (HF16.out.bel hbq)
     have HB17:=Lib.hid (HB16.out.belowAll hbq)
     have HN17:=Lib.hid (HN16.out.belowAll hbq)
     have HG17:=Lib.hid (HG16.out.belowAll hbq)
     have HR17:=Lib.hid (HR16.out.belowAll hbq)
     have HV17:=Lib.hid (HV16.out.up (Keep.below hbq))
     clear HP16 HF16 HB16 HN16 HG16 HR16 HV16
     clear hbq HT
     have hL:=Holds.new w17 9 #[.string ⟨#[91]⟩]
     have HL:=Lib.hid hL
     clear hL
     have hba:Below w17.heap.size w17 (w17.alloc (.cells #[.string ⟨#[91]⟩] 9)):=(Below.refl _ _).alloc (Nat.le_refl _) _
     have HP18:=Lib.hid (HP17.out.belowAll hba)
     have HF18:=Lib.hid (HF17.out.bel hba)
     have HB18:=Lib.hid (HB17.out.belowAll hba)
     have HN18:=Lib.hid (HN17.out.belowAll hba)
     have HG18:=Lib.hid (HG17.out.belowAll hba)
     have HR18:=Lib.hid (HR17.out.belowAll hba)
     have HV18:=Lib.hid (HV17.out.up (Keep.below hba))
     clear HP17 HF17 HB17 HN17 HG17 HR17 HV17
     clear hba
     cases hs:sees E (j2 + 1) [[91]] with
     | true=>
      have hs2:=hs
      have HS2:=Lib.hid (sees_lt hs)
      have hT:=sees1 HP18.out [[91]] HL.out (by simp)
      rw [hs] at hT
      have HT:=Lib.hid hT
      clear hT HL
      have HQ:=Lib.hid hRr
      clear hRr
      go_wp2_with (fail)
      refine (HT.out).mono ?_
      rintro e w19 ⟨rfl,hbq⟩
      have hRr:=HQ.out
      clear HQ
      have HP19:=Lib.hid (HP18.out.belowAll hbq)
      have HF19:=Lib.hid (HF18.out.bel hbq)
      have HB19:=Lib.hid (HB18.out.belowAll hbq)
      have HN19:=Lib.hid (HN18.out.belowAll hbq)
      have HG19:=Lib.hid (HG18.out.belowAll hbq)
      have HR19:=Lib.hid (HR18.out.belowAll hbq)
      have HV19:=Lib.hid (HV18.out.up (Keep.below hbq))
      clear HP18 HF18 HB18 HN18 HG18 HR18 HV18
      clear hbq HT
      rw [if_pos (by rw [hs1,hs2];rfl)] at hRr
      have hlt1:=HS2.out
      have hW:∀ W',Par W' p vl E j2→Calls Tryz.prog 49 #[.pointer (some ⟨p,0,none⟩),.int .i64 0] W' fun e w'=>e=.returned (tokV (tokAt E j2))∧Below W'.heap.size W' w':=fun W' h=>by have h2:=wordFn h 0 (by omega);rw [Nat.add_zero] at h2;exact h2
      obtain ⟨t,ht⟩:∃ t,tokAt E j2=t:=⟨_,rfl⟩
      rw [ht] at hW
      rw [textAt_tok,ht] at hRr
      unfold tokV at hW
      have HC:=Lib.hid hW
      clear hW ht
      have hfd:=field_tok1
      have HS0:Hid (F2 p w.heap.size w19 w19):=F2.rfl_
      have HRr:=Lib.hid hRr
      clear hRr
      have hszB:w.heap.size < w19.heap.size:=HB19.out.lt
      have hszR:w11.heap.size < w19.heap.size:=HR19.out.lt
      have l0:∀ w',F2 p w.heap.size w19 w'→w'.cell? ⟨w11.heap.size,0,none⟩=some (.slice (some ⟨gn,on,none⟩) nn cn):=fun w' h=>(h.holds HR19.out (by omega) (by omega)).cell 0
      have l1:∀ w',F2 p w.heap.size w19 w'→w'.cell? ⟨w11.heap.size,1,none⟩=some (.slice ai nn ci):=fun w' h=>(h.holds HR19.out (by omega) (by omega)).cell 1
      have l2:∀ w',F2 p w.heap.size w19 w'→w'.cell? ⟨w11.heap.size,2,none⟩=some (.slice (some ⟨gh,oh,none⟩) nn ch):=fun w' h=>(h.holds HR19.out (by omega) (by omega)).cell 2
      have hvi:=HV19.out.mono (Q:=fun k=>w.heap.size + 1 ≤ k∧k < w19.heap.size) (fun k hk hs=>⟨hk,hs⟩)
      have HVI:=Lib.hid hvi
      clear hvi
      go_upto_region 6 with (fail)
      go_cut [4] (fun s4 wx=>∃ ba:Nat,s4=.pointer (some ⟨ba,0,none⟩)∧w.heap.size + 1 ≤ ba∧Hid (Holds wx ba 41 [.int .i64 7,.int .i64 0,.string ⟨t.text.toArray⟩,.string ⟨#[]⟩,.slice (some ⟨gn,on,none⟩) nn cn,.slice ai nn ci,.slice (some ⟨gh,oh,none⟩) nn ch,.slice none 0 0,.slice none 0 0])∧Hid (RfF (fun k=>w.heap.size + 1 ≤ k∧k ≠ ba) wx x (.slice (some ⟨gn,on,none⟩) nn cn) (.slice ai nn ci) (.slice (some ⟨gh,oh,none⟩) nn ch))∧Hid (Holds wx w.heap.size 41 [.int .i64 0,.int .i64 0,.string ⟨#[]⟩,.string ⟨#[]⟩,.slice none 0 0,.slice none 0 0,.slice none 0 0,.slice none 0 0,.slice none 0 0])∧Hid (Par wx p vl E j2)∧Hid (Fp p w wx))
      case first=>
       go_region_held3 (fun w':World=>F2 p w.heap.size w19 w') (repeat' first | (with_reducible exact HS0.out) | (with_reducible exact hS6.out) | with_reducible apply F2.drew | with_reducible apply F2.alloc | (with_reducible refine F2.far ?_ (Nat.le_refl _) _ _) | (with_reducible refine F2.far ?_ HF6.out.size _ _)) (first | (go_at_call 49;have hPq:=(HP19.out.alloc (.cells #[.int .i64 0,.int .i64 0,.string ⟨#[]⟩,.string ⟨#[]⟩,.slice none 0 0,.slice none 0 0,.slice none 0 0,.slice none 0 0,.slice none 0 0] 41)).drew;(with_reducible refine (HC.out ((w19.alloc (.cells #[.int .i64 0,.int .i64 0,.string ⟨#[]⟩,.string ⟨#[]⟩,.slice none 0 0,.slice none 0 0,.slice none 0 0,.slice none 0 0,.slice none 0 0] 41)).drew) hPq).mono ?_);rintro e w6 ⟨rfl,hb6⟩;have HP6:=Lib.hid (hPq.belowAll hb6);have hA6:=(show Holds ((w19.alloc (.cells #[.int .i64 0,.int .i64 0,.string ⟨#[]⟩,.string ⟨#[]⟩,.slice none 0 0,.slice none 0 0,.slice none 0 0,.slice none 0 0,.slice none 0 0] 41)).drew) w19.heap.size 41 [.int .i64 0,.int .i64 0,.string ⟨#[]⟩,.string ⟨#[]⟩,.slice none 0 0,.slice none 0 0,.slice none 0 0,.slice none 0 0,.slice none 0 0] from Holds.new w19 41 #[.int .i64 0,.int .i64 0,.string ⟨#[]⟩,.string ⟨#[]⟩,.slice none 0 0,.slice none 0 0,.slice none 0 0,.slice none 0 0,.slice none 0 0]).belowAll hb6;obtain ⟨d0,d1,d2,d3,d4,d5,d6,d7,d8⟩:=hA6.cells9;obtain ⟨g0,g1,g2,g3,g4,g5,g6,g7,g8⟩:=hA6.free9;have HA6:=Lib.hid hA6;have HF6:=Lib.hid (Fp.bel ((Fp.refl p w19).alloc _).drew hb6);have hS6:=Lib.hid (F2.of_fp (b:=w.heap.size) HF6.out);clear hPq hb6 hA6) | (go_at_call 49;have hPq:=HP19.out.drew;(with_reducible refine (HC.out (w19.drew) hPq).mono ?_);rintro e w6 ⟨rfl,hb6⟩;have HP6:=Lib.hid (hPq.belowAll hb6);have HF6:=Lib.hid (Fp.bel (Fp.refl p w19).drew hb6);have hS6:=Lib.hid (F2.of_fp (b:=w.heap.size) HF6.out);clear hPq hb6))
       ·have hF6:=HF6.out
        have hs6:w19.heap.size ≤ w6.heap.size:=hF6.size
        have HVI:=HVI
        have HPr6:=Lib.hid HP6.out
        have HFr6:=Lib.hid (HF19.out.trans hF6)
        have HBr6:=Lib.hid (HB19.out.fp hF6 (by omega))
        clear HP19 HF19 HB19
        have hv6:=HVI.out.up (Keep.of_fp hF6 (by show ¬ _;omega))
        have hv7:=(hv6.mono (Q:=fun k=>w.heap.size + 1 ≤ k∧k ≠ w6.heap.size) (fun k hk hs=>⟨hk.1,by omega⟩)).up (Keep.below ((Below.refl w6.heap.size w6).alloc (Nat.le_refl _) (.cells #[.int .i64 7,.int .i64 0,.string ⟨t.text.toArray⟩,.string ⟨#[]⟩,.slice (some ⟨gn,on,none⟩) nn cn,.slice ai nn ci,.slice (some ⟨gh,oh,none⟩) nn ch,.slice none 0 0,.slice none 0 0] 41)))
        have HV7:=Lib.hid hv7
        clear hv6 hv7
        have hba:Below w6.heap.size w6 (w6.alloc (.cells #[.int .i64 7,.int .i64 0,.string ⟨t.text.toArray⟩,.string ⟨#[]⟩,.slice (some ⟨gn,on,none⟩) nn cn,.slice ai nn ci,.slice (some ⟨gh,oh,none⟩) nn ch,.slice none 0 0,.slice none 0 0] 41)):=(Below.refl _ _).alloc (Nat.le_refl _) _
        have hbn:=Holds.new w6 41 #[.int .i64 7,.int .i64 0,.string ⟨t.text.toArray⟩,.string ⟨#[]⟩,.slice (some ⟨gn,on,none⟩) nn cn,.slice ai nn ci,.slice (some ⟨gh,oh,none⟩) nn ch,.slice none 0 0,.slice none 0 0]
        have HP20:=Lib.hid (HPr6.out.belowAll hba)
        have HF20:=Lib.hid (HFr6.out.bel hba)
        have HB20:=Lib.hid (HBr6.out.belowAll hba)
        clear HPr6 HFr6 HBr6
        have HA20:=Lib.hid hbn
        clear hbn
        clear hba
        go_wp2_with (fail)
        go_meet
        case rel=>exact ⟨_,rfl,by omega,HA20,HV7,HB20,HP20,HF20⟩
       ·have hF6:=HF6.out
        have hs6:w19.heap.size ≤ w6.heap.size:=hF6.size
        have HVI:=HVI
        have HPr6:=Lib.hid HP6.out
        have HFr6:=Lib.hid (HF19.out.trans hF6)
        have HBr6:=Lib.hid (HB19.out.fp hF6 (by omega))
        clear HP19 HF19 HB19
        have hv6:=HVI.out.up (Keep.of_fp hF6 (by show ¬ _;omega))
        have hv7:=(hv6.mono (Q:=fun k=>w.heap.size + 1 ≤ k∧k ≠ w19.heap.size) (fun k hk hs=>⟨hk.1,by omega⟩)).up (Keep.setR (b:=w19.heap.size) (by show ¬ _;omega) [.int .i64 7,.int .i64 0,.string ⟨t.text.toArray⟩,.string ⟨#[]⟩,.slice (some ⟨gn,on,none⟩) nn cn,.slice ai nn ci,.slice (some ⟨gh,oh,none⟩) nn ch,.slice none 0 0,.slice none 0 0] 0)
        have HV7:=Lib.hid hv7
        clear hv6 hv7
        have HAr6:=Lib.hid HA6.out
        clear d0 d1 d2 d3 d4 d5 d6 d7 d8 g0 g1 g2 g3 g4 g5 g6 g7 g8
        obtain ⟨w21,hW21⟩:∃ W,W=(((((((((w6.setCell ⟨w19.heap.size,0,none⟩ (.int .i64 7)).setCell ⟨w19.heap.size,1,none⟩ (.int .i64 0)).setCell ⟨w19.heap.size,2,none⟩ (.string ⟨t.text.toArray⟩)).setCell ⟨w19.heap.size,3,none⟩ (.string ⟨#[]⟩)).setCell ⟨w19.heap.size,4,none⟩ (.slice (some ⟨gn,on,none⟩) nn cn)).setCell ⟨w19.heap.size,5,none⟩ (.slice ai nn ci)).setCell ⟨w19.heap.size,6,none⟩ (.slice (some ⟨gh,oh,none⟩) nn ch)).setCell ⟨w19.heap.size,7,none⟩ (.slice none 0 0)).setCell ⟨w19.heap.size,8,none⟩ (.slice none 0 0)):=⟨_,rfl⟩
        have hP21:=Par.setR (b:=w19.heap.size) (by omega) [.int .i64 7,.int .i64 0,.string ⟨t.text.toArray⟩,.string ⟨#[]⟩,.slice (some ⟨gn,on,none⟩) nn cn,.slice ai nn ci,.slice (some ⟨gh,oh,none⟩) nn ch,.slice none 0 0,.slice none 0 0] 0 HPr6.out
        have hF21:=Fp.setR (b:=w19.heap.size) (by omega) [.int .i64 7,.int .i64 0,.string ⟨t.text.toArray⟩,.string ⟨#[]⟩,.slice (some ⟨gn,on,none⟩) nn cn,.slice ai nn ci,.slice (some ⟨gh,oh,none⟩) nn ch,.slice none 0 0,.slice none 0 0] 0 HFr6.out
        have hB21:=Holds.farR (b':=w19.heap.size) (by omega) [.int .i64 7,.int .i64 0,.string ⟨t.text.toArray⟩,.string ⟨#[]⟩,.slice (some ⟨gn,on,none⟩) nn cn,.slice ai nn ci,.slice (some ⟨gh,oh,none⟩) nn ch,.slice none 0 0,.slice none 0 0] 0 HBr6.out
        have hA21:=Holds.setR [.int .i64 7,.int .i64 0,.string ⟨t.text.toArray⟩,.string ⟨#[]⟩,.slice (some ⟨gn,on,none⟩) nn cn,.slice ai nn ci,.slice (some ⟨gh,oh,none⟩) nn ch,.slice none 0 0,.slice none 0 0] 0 HAr6.out
        simp only [setR,Nat.reduceAdd,Nat.zero_add] at hP21 hF21 hB21 hA21
        have HP21:=Lib.hid hP21
        have HF21:=Lib.hid hF21
        have HB21:=Lib.hid hB21
        have HA21:=Lib.hid hA21
        clear hP21 hF21 hB21 hA21 hW21
        clear HPr6 HFr6 HBr6 HAr6
        go_wp2_with (fail)
        go_meet
        case rel=>exact ⟨_,rfl,by omega,HA21,HV7,HB21,HP21,HF21⟩
      case rest=>
       obtain ⟨ba,rfl,hba1,HAc,HVc,HBc,HPc,HFc⟩:=hcut
       clear HC HS0 l0 l1 l2 HVI hfd HP19 HF19 HB19 HN19 HG19 HR19 HV19
       have hRr:=HRr.out
       clear HRr
       have hbac:ba < wc.heap.size:=HAc.out.lt
       obtain ⟨c0,c1,c2,f2⟩:=HPc.out.cells
       obtain ⟨w22,hW22⟩:∃ W,W=wc.setCell ⟨p,2,none⟩ (.int .i64 ((j2:Int) + 2)):=⟨_,rfl⟩
       have hPx:=HPc.out.set (j:=j2 + 2) (by have h:=hlt1;omega)
       have hPy:Par (wc.setCell ⟨p,2,none⟩ (.int .i64 ((j2:Int) + 2))) p vl E (j2 + 2):=hPx
       clear hPx
       rw [← hW22] at hPy
       have HP22:=Lib.hid hPy
       clear hPy
       have hFy:=HFc.out.set 2 (.int .i64 ((j2:Int) + 2))
       rw [← hW22] at hFy
       have HF22:=Lib.hid hFy
       clear hFy
       have hy:=HAc.out.far (p:=⟨p,2,none⟩) (show ¬ _=p by omega) (.int .i64 ((j2:Int) + 2))
       rw [← hW22] at hy
       have HA22:=Lib.hid hy
       clear hy
       have hy:=HBc.out.far (p:=⟨p,2,none⟩) (show ¬ _=p by omega) (.int .i64 ((j2:Int) + 2))
       rw [← hW22] at hy
       have HB22:=Lib.hid hy
       clear hy
       have hy:=HVc.out.up (Keep.of_fp ((Fp.refl p wc).set 2 (.int .i64 ((j2:Int) + 2))) (by show ¬ _;omega))
       rw [← hW22] at hy
       have HV22:=Lib.hid hy
       clear hy
       clear HPc HFc HAc HBc HVc
       have hmf:∀ (fn:Fn) (first cap:Array Value) (w:World),(Instr.makeFunc fn first cap).run Tryz.prog w=.ok (.func fn first cap) w:=fun _ _ _ _=>rfl
       have hszM:ba < w22.heap.size:=HA22.out.lt
       have hjL:j2 + 1 < 65536:=by have h:=HP22.out.few;omega
       have HRr:=Lib.hid hRr
       clear hRr
       go_wp2_with (fail)
       rw [← hW22]
       clear hW22 c0 c1 c2 f2
       have hRr:=HRr.out
       clear HRr
       have HC':=messageArgFn f (fun k=>arg E f k) _ _ _ HP22.out (oneArg ih) (fun i a k h=>Nat.le_of_lt ((advE E f).arg h)) (fun h=>by rw [h] at hRr;exact HNE.out hRr.symm)
       cases h1:message E (fun k=>arg E f k) f (j2 + 2) with
       | out=>exact absurd h1 (fun h=>by rw [h] at hRr;exact HNE.out hRr.symm)
       | bad c a=>
        rw [h1] at HC' hRr
        have HC:=Lib.hid HC'
        have HR:=Lib.hid hRr
        clear h1 HC' hRr ih
        skip
        refine (HC.out).mono ?_
        rintro e wz ⟨rfl,hF⟩
        rw [← HR.out]
        exact ⟨rfl,rfl,HF22.out.trans hF⟩
       | ok l j4=>
        rw [h1] at HC' hRr
        have HC:=Lib.hid HC'
        have HR:=Lib.hid hRr
        clear h1 HC' hRr
        skip
        refine (HC.out).mono ?_
        rintro e w23 ⟨vw23,rfl,hv,hPq,hFq⟩
        have hRr:=HR.out
        try simp only [R.bd] at hRr
        have HP23:=Lib.hid hPq
        have HF23:=Lib.hid (HF22.out.trans hFq)
        have HA23:=Lib.hid (HA22.out.fp hFq (by omega))
        have HB23:=Lib.hid (HB22.out.fp hFq (by omega))
        have HV23:=Lib.hid (HV22.out.up (Keep.of_fp hFq (by show ¬ _;omega)))
        clear HP22 HF22 HA22 HB22 HV22
        clear hPq hFq HR HC
        obtain ⟨ff,hr,hf⟩:=hv
        obtain ⟨za,zc,hvf,_⟩:=hr.form
        subst hvf
        have HU23:=Lib.hid (show ArgsV (From w22.heap.size) w23 _ _ from ⟨ff,hr,hf⟩)
        clear hr hf
        have a8:w23.cell? ⟨ba,8,none⟩=some (.slice none 0 0):=HA23.out.cell 8
        have b8:w23.frozen? ⟨ba,8,none⟩=false:=HA23.out.free 8
        have HRq:=Lib.hid hRr
        clear hRr
        go_wp2_with (fail)
        have hRr:=HRq.out
        clear HRq a8 b8 hmf
        obtain ⟨w24,hW24⟩:∃ W,W=(w23.setCell ⟨ba,8,none⟩ (.slice za l.length zc)):=⟨_,rfl⟩
        have hP24:=Par.setR (b:=ba) (by omega) [.slice za l.length zc] 8 HP23.out
        have hF24:=Fp.setR (b:=ba) (by omega) [.slice za l.length zc] 8 HF23.out
        have hA24:=Holds.setR [.slice za l.length zc] 8 HA23.out
        have hB24:=Holds.farR (b':=ba) (by omega) [.slice za l.length zc] 8 HB23.out
        have hV24:=HV23.out.up (Keep.setR (b:=ba) (fun h=>h.2 rfl) [.slice za l.length zc] 8)
        have hU24:=HU23.out.up (Keep.setR (b:=ba) (by show ¬ _;omega) [.slice za l.length zc] 8)
        simp only [setR,Nat.reduceAdd,Nat.zero_add] at hP24 hF24 hA24 hB24 hV24 hU24
        rw [← hW24] at hP24 hF24 hA24 hB24 hV24 hU24
        rw [← hW24]
        have HP24:=Lib.hid hP24
        have HF24:=Lib.hid hF24
        have HA24:=Lib.hid hA24
        have HB24:=Lib.hid hB24
        have HV24:=Lib.hid hV24
        have HU24:=Lib.hid hU24
        clear hP24 hF24 hA24 hB24 hV24 hU24 hW24
        clear HP23 HF23 HA23 HB23 HV23 HU23
        have HC':=needFn HP24.out [93]
        cases h1:need E [93] j4 with
        | out=>exact absurd h1 need_ne
        | bad c a=>
         rw [h1] at HC' hRr
         have HC:=Lib.hid HC'
         have HR:=Lib.hid hRr
         clear h1 HC' hRr 
         go_wp2_with (fail)
         refine (HC.out).mono ?_
         rintro e wz ⟨rfl,hF⟩
         rw [← HR.out]
         exact ⟨rfl,rfl,HF24.out.trans hF⟩
        | ok u j5=>
         rw [h1] at HC' hRr
         have HC:=Lib.hid HC'
         have HR:=Lib.hid hRr
         clear h1 HC' hRr
         go_wp2_with (fail)
         refine (HC.out).mono ?_
         rintro e w25 ⟨vw25,rfl,hv,hPq,hFq⟩
         have hRr:=HR.out
         try simp only [R.bd] at hRr
         have HP25:=Lib.hid hPq
         have HF25:=Lib.hid (HF24.out.trans hFq)
         have HA25:=Lib.hid (HA24.out.fp hFq (by omega))
         have HB25:=Lib.hid (HB24.out.fp hFq (by omega))
         have HV25:=Lib.hid (HV24.out.up (Keep.of_fp hFq (by show ¬ _;omega)))
         have HU25:=Lib.hid (HU24.out.up (Keep.of_fp hFq (by show ¬ _;omega)))
         clear HP24 HF24 HA24 HB24 HV24 HU24
         clear hPq hFq HR HC
         obtain rfl:=hv
         obtain ⟨l0,l1,l2,l3,l4,l5,l6,l7,l8⟩:=HA25.out.cells9
         have hvv:=HV25.out.mono (Q:=From (w.heap.size + 1)) (fun k hk _=>hk.1)
         have HVV:=Lib.hid hvv
         have hww:=HU25.out.mono (Q:=From (w.heap.size + 1)) (fun k hk _=>by have hk2:w22.heap.size ≤ k:=hk;show _ ≤ k;omega)
         have HWW:=Lib.hid hww
         clear hvv hww
         obtain ⟨d0,d1,d2,d3,d4,d5,d6,d7,d8⟩:=HB25.out.cells9
         obtain ⟨g0,g1,g2,g3,g4,g5,g6,g7,g8⟩:=HB25.out.free9
         have HZ:=Lib.hid hRr
         clear hRr
         go_wp2
         exact ast_end2 (x:=.poll t.text x l) (P:=From (w.heap.size + 1)) Tryz.results144 rfl rfl HB25.out (by unfold Ast.poll;exact AstF.poll HVV.out HWW.out) (by show ¬ _;omega) (by intro k hk;have hk2:_ ≤ k:=hk;omega) (Nat.le_refl _) hp1 HP25.out HF25.out HZ.out.symm rfl rfl rfl rfl
     | false=>
      have hs2:=hs
      have hT:=sees1 HP18.out [[91]] HL.out (by simp)
      rw [hs] at hT
      have HT:=Lib.hid hT
      clear hT HL
      have HQ:=Lib.hid hRr
      clear hRr
      go_wp2_with (fail)
      refine (HT.out).mono ?_
      rintro e w19 ⟨rfl,hbq⟩
      have hRr:=HQ.out
      clear HQ
      have HP19:=Lib.hid (HP18.out.belowAll hbq)
      have HF19:=Lib.hid (HF18.out.bel hbq)
      have HB19:=Lib.hid (HB18.out.belowAll hbq)
      have HN19:=Lib.hid (HN18.out.belowAll hbq)
      have HG19:=Lib.hid (HG18.out.belowAll hbq)
      have HR19:=Lib.hid (HR18.out.belowAll hbq)
      have HV19:=Lib.hid (HV18.out.up (Keep.below hbq))
      clear HP18 HF18 HB18 HN18 HG18 HR18 HV18
      clear hbq HT
      rw [if_neg (by rw [hs1,hs2];simp)] at hRr
      have r0:w19.cell? ⟨w11.heap.size,0,none⟩=some (.slice (some ⟨gn,on,none⟩) nn cn):=HR19.out.cell 0
      have r1:w19.cell? ⟨w11.heap.size,1,none⟩=some (.slice ai nn ci):=HR19.out.cell 1
      have r2:w19.cell? ⟨w11.heap.size,2,none⟩=some (.slice (some ⟨gh,oh,none⟩) nn ch):=HR19.out.cell 2
      obtain ⟨d0,d1,d2,d3,d4,d5,d6,d7,d8⟩:=HB19.out.cells9
      obtain ⟨g0,g1,g2,g3,g4,g5,g6,g7,g8⟩:=HB19.out.free9
      have HZ:=Lib.hid hRr
      clear hRr
      go_wp2
      exact ast_end2 (x:=.ofRef x) (P:=From (w.heap.size + 1)) Tryz.results144 rfl rfl HB19.out (by unfold Ast.ofRef;exact HV19.out.ast) (by show ¬ _;omega) (by intro k hk;have hk2:_ ≤ k:=hk;omega) (Nat.le_refl _) hp1 HP19.out HF19.out HZ.out.symm rfl rfl rfl rfl
    | false=>
     have hs1:=hs
     have hT:=sees0 HP16.out [[63],[63,63]] HL.out (by simp)
     rw [hs] at hT
     have HT:=Lib.hid hT
     clear hT HL
     have HQ:=Lib.hid hRr
     clear hRr
     go_wp2_with (fail)
     refine (HT.out).mono ?_
     rintro e w17 ⟨rfl,hbq⟩
     have hRr:=HQ.out
     clear HQ
     have HP17:=Lib.hid (HP16.out.belowAll hbq)
     have HF17:=Lib.hid (HF16.out.bel hbq)
     have HB17:=Lib.hid (HB16.out.belowAll hbq)
     have HN17:=Lib.hid (HN16.out.belowAll hbq)
     have HG17:=Lib.hid (HG16.out.belowAll hbq)
     have HR17:=Lib.hid (HR16.out.belowAll hbq)
     have HV17:=Lib.hid (HV16.out.up (Keep.below hbq))
     clear HP16 HF16 HB16 HN16 HG16 HR16 HV16
     clear hbq HT
     rw [if_neg (by rw [hs1];simp)] at hRr
     have r0:w17.cell? ⟨w11.heap.size,0,none⟩=some (.slice (some ⟨gn,on,none⟩) nn cn):=HR17.out.cell 0
     have r1:w17.cell? ⟨w11.heap.size,1,none⟩=some (.slice ai nn ci):=HR17.out.cell 1
     have r2:w17.cell? ⟨w11.heap.size,2,none⟩=some (.slice (some ⟨gh,oh,none⟩) nn ch):=HR17.out.cell 2
     obtain ⟨d0,d1,d2,d3,d4,d5,d6,d7,d8⟩:=HB17.out.cells9
     obtain ⟨g0,g1,g2,g3,g4,g5,g6,g7,g8⟩:=HB17.out.free9
     have HZ:=Lib.hid hRr
     clear hRr
     go_wp2
     exact ast_end2 (x:=.ofRef x) (P:=From (w.heap.size + 1)) Tryz.results144 rfl rfl HB17.out (by unfold Ast.ofRef;exact HV17.out.ast) (by show ¬ _;omega) (by intro k hk;have hk2:_ ≤ k:=hk;omega) (Nat.le_refl _) hp1 HP17.out HF17.out HZ.out.symm rfl rfl rfl rfl
end Go.Proofs.YtpoghableadkcaaGreatDoor
