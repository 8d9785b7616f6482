/- WithinStr, WithinAst, MessageAst, MessageArg, joined. -/
import Derived.Test.YtpoghableadkcaaGreatDoorM08
section
/- The walk of within over texts. -/
namespace Go.Proofs.YtpoghableadkcaaGreatDoor
open Go.RowKit
set_option linter.unusedVariables false
set_option linter.unusedSimpArgs false

set_option maxHeartbeats 2000000 in
set_option maxRecDepth 100000 in
theorem withinStrFn {w:World} {p:Nat} {vl:Value} {E:Env} {i:Nat} (f:Nat) (one:Nat→R (Bs)) (g:Nat) (fs cs:Array Value) (hP:Par w p vl E i) (ho:OneOk p vl E StrE g fs cs one) (hadv:∀ i a k,one i=.ok a k→i ≤ k) (hne:within E one f i ≠ .out):
  Calls Tryz.prog 55 #[.pointer (some ⟨p,0,none⟩),.func (.func g) fs cs] w (Out p vl E w (StrsE (From w.heap.size)) (within E one f i)):=by
 have hp1:=hP.lt
 have HO:=Lib.hid ho
 have HA:=Lib.hid hadv
 obtain ⟨Rr,hRr⟩:∃ Rr,within E one f i=Rr:=⟨_,rfl⟩
 rw [hRr] at hne ⊢
 unfold within at hRr
 have HNE:=Lib.hid hne
 have HN':=needFn hP [40]
 have hout:need E [40] i ≠ .out:=need_ne
 clear ho hadv hne hP
 cases hn:need E [40] i with
 | out=>exact absurd hn hout
 | bad c a=>
  rw [hn] at HN' hRr
  subst hRr
  have HN:=Lib.hid HN'
  clear hn HN' hout
  go_enter Tryz.func55,Tryz.ntmps55
  go_wp2_with (fail)
  refine (HN.out).mono ?_
  rintro e w1 ⟨rfl,hF⟩
  exact ⟨rfl,rfl,hF⟩
 | ok u j=>
  rw [hn] at HN' hRr
  have HN:=Lib.hid HN'
  clear hn HN' hout
  simp only [R.bd] at hRr
  cases hs:sees E j [[41]] with
  | true=>
   rw [if_pos hs] at hRr
   subst hRr
   go_enter Tryz.func55,Tryz.ntmps55
   go_wp2_with (fail)
   refine (HN.out).mono ?_
   rintro e w1 ⟨v,rfl,hv,hP1,hF1⟩
   obtain rfl:=hv
   have hb0:Below w1.heap.size w1 (w1.alloc (.cells #[.string ⟨#[41]⟩] 9)):=(Below.refl _ _).alloc (Nat.le_refl _) _
   have HT:=Lib.hid (takes_yes (hP1.belowAll hb0) [[41]] (Holds.new w1 9 #[.string ⟨#[41]⟩]) (by simp) hs)
   have HF:=Lib.hid (hF1.bel hb0)
   clear hP1 hF1 hb0 hs
   go_wp2_with (fail)
   refine (HT.out).mono ?_
   rintro e w2 ⟨rfl,hP2,hF2⟩
   have HZ:Hid (Par w2 p vl E (j + 1)∧Fp p w w2):=⟨hP2,HF.out.trans hF2⟩
   clear hP2 hF2
   go_wp2
   go_ret
   exact ⟨_,rfl,⟨[],RowL.nil _ _ _,rfl⟩,HZ.out⟩
  | false=>
   rw [if_neg (by rw [hs];decide)] at hRr
   have HR:=Lib.hid hRr
   clear hRr
   go_enter Tryz.func55,Tryz.ntmps55
   go_wp2_with (fail)
   refine (HN.out).mono ?_
   rintro e w1 ⟨v,rfl,hv,hP1,hF1⟩
   obtain rfl:=hv
   have hb0:Below w1.heap.size w1 (w1.alloc (.cells #[.string ⟨#[41]⟩] 9)):=(Below.refl _ _).alloc (Nat.le_refl _) _
   have HP1:=Lib.hid (hP1.belowAll hb0)
   have HT:=Lib.hid (takes_no HP1.out [[41]] (Holds.new w1 9 #[.string ⟨#[41]⟩]) (by simp) hs)
   have HF:=Lib.hid (hF1.bel hb0)
   clear hP1 hF1 hb0 hs
   go_wp2_with (fail)
   refine (HT.out).mono ?_
   rintro e w2 ⟨rfl,hb⟩
   have HP2:=Lib.hid (HP1.out.belowAll hb)
   have HF2:=Lib.hid (HF.out.bel hb)
   clear hb HP1 HF HT
   have hml:many E one f j ≠ .out:=fun h=>by have:=HR.out;rw [h] at this;exact HNE.out this.symm
   have HL':=listStrFn f one g fs cs HP2.out HO.out HA.out hml
   cases hm:many E one f j with
   | out=>exact absurd hm hml
   | bad c a=>
    rw [hm] at HL' HR
    have HL:=Lib.hid HL'
    clear hm HL' hml
    go_wp2_with (fail)
    refine (HL.out).mono ?_
    rintro e w3 ⟨rfl,hF⟩
    rw [← HR.out]
    exact ⟨rfl,rfl,HF2.out.trans hF⟩
   | ok l k=>
    rw [hm] at HL' HR
    have HL:=Lib.hid HL'
    clear hm HL' hml
    go_wp2_with (fail)
    refine (HL.out).mono ?_
    rintro e w3 ⟨v3,rfl,hv3,hP3,hF3⟩
    have HP3:=Lib.hid hP3
    have HV3:=Lib.hid (hv3.mono (Wide.from HF2.out.size))
    have hp3:p < w.heap.size:=hp1
    have HF3:=Lib.hid (HF2.out.trans hF3)
    clear hv3 hP3 hF3 HP2 HF2 HL
    have HM':=needFn HP3.out [41]
    have hout:need E [41] k ≠ .out:=need_ne
    cases hn:need E [41] k with
    | out=>exact absurd hn hout
    | bad c a=>
     have hR:=HR.out
     simp only [R.bd,hn] at hR
     rw [hn] at HM'
     have HM:=Lib.hid HM'
     have HR2:=Lib.hid hR
     clear hn HM' hout hR
     go_wp2_with (fail)
     refine (HM.out).mono ?_
     rintro e w4 ⟨rfl,hF⟩
     rw [← HR2.out]
     exact ⟨rfl,rfl,HF3.out.trans hF⟩
    | ok u m=>
     have hR:=HR.out
     simp only [R.bd,hn] at hR
     rw [hn] at HM'
     have HM:=Lib.hid HM'
     have HR2:=Lib.hid hR
     clear hn HM' hout hR
     go_wp2_with (fail)
     refine (HM.out).mono ?_
     rintro e w4 ⟨v4,rfl,hv4,hP4,hF4⟩
     obtain rfl:=hv4
     have HZ:Hid (Out p vl E w (StrsE (From w.heap.size)) Rr (.returned v3) w4):=by
      show Out _ _ _ _ _ _ _ _
      rw [← HR2.out]
      exact ⟨_,rfl,HV3.out.up (Up.keep (Up.of_fp hF4 hp3)),hP4,HF3.out.trans hF4⟩
     clear hP4 hF4
     go_wp2
     go_ret
     exact HZ.out
end Go.Proofs.YtpoghableadkcaaGreatDoor
end
section
/- The walk of within over expressions. -/
namespace Go.Proofs.YtpoghableadkcaaGreatDoor
open Go.RowKit
set_option linter.unusedVariables false
set_option linter.unusedSimpArgs false

set_option maxHeartbeats 2000000 in
set_option maxRecDepth 100000 in
theorem withinAstFn {w:World} {p:Nat} {vl:Value} {E:Env} {i:Nat} (f:Nat) (one:Nat→R (Ast)) (g:Nat) (fs cs:Array Value) (hP:Par w p vl E i) (ho:OneOk p vl E AstV g fs cs one) (hadv:∀ i a k,one i=.ok a k→i ≤ k) (hne:within E one f i ≠ .out):
  Calls Tryz.prog 145 #[.pointer (some ⟨p,0,none⟩),.func (.func g) fs cs] w (Out p vl E w (AstsV (From w.heap.size)) (within E one f i)):=by
 have hp1:=hP.lt
 have HO:=Lib.hid ho
 have HA:=Lib.hid hadv
 obtain ⟨Rr,hRr⟩:∃ Rr,within E one f i=Rr:=⟨_,rfl⟩
 rw [hRr] at hne ⊢
 unfold within at hRr
 have HNE:=Lib.hid hne
 have HN':=needFn hP [40]
 have hout:need E [40] i ≠ .out:=need_ne
 clear ho hadv hne hP
 cases hn:need E [40] i with
 | out=>exact absurd hn hout
 | bad c a=>
  rw [hn] at HN' hRr
  subst hRr
  have HN:=Lib.hid HN'
  clear hn HN' hout
  go_enter Tryz.func145,Tryz.ntmps145
  go_wp2_with (fail)
  refine (HN.out).mono ?_
  rintro e w1 ⟨rfl,hF⟩
  exact ⟨rfl,rfl,hF⟩
 | ok u j=>
  rw [hn] at HN' hRr
  have HN:=Lib.hid HN'
  clear hn HN' hout
  simp only [R.bd] at hRr
  cases hs:sees E j [[41]] with
  | true=>
   rw [if_pos hs] at hRr
   subst hRr
   go_enter Tryz.func145,Tryz.ntmps145
   go_wp2_with (fail)
   refine (HN.out).mono ?_
   rintro e w1 ⟨v,rfl,hv,hP1,hF1⟩
   obtain rfl:=hv
   have hb0:Below w1.heap.size w1 (w1.alloc (.cells #[.string ⟨#[41]⟩] 9)):=(Below.refl _ _).alloc (Nat.le_refl _) _
   have HT:=Lib.hid (takes_yes (hP1.belowAll hb0) [[41]] (Holds.new w1 9 #[.string ⟨#[41]⟩]) (by simp) hs)
   have HF:=Lib.hid (hF1.bel hb0)
   clear hP1 hF1 hb0 hs
   go_wp2_with (fail)
   refine (HT.out).mono ?_
   rintro e w2 ⟨rfl,hP2,hF2⟩
   have HZ:Hid (Par w2 p vl E (j + 1)∧Fp p w w2):=⟨hP2,HF.out.trans hF2⟩
   clear hP2 hF2
   go_wp2
   go_ret
   exact ⟨_,rfl,⟨[],RowL.nil _ _ _,by rw [AstsF]⟩,HZ.out⟩
  | false=>
   rw [if_neg (by rw [hs];decide)] at hRr
   have HR:=Lib.hid hRr
   clear hRr
   go_enter Tryz.func145,Tryz.ntmps145
   go_wp2_with (fail)
   refine (HN.out).mono ?_
   rintro e w1 ⟨v,rfl,hv,hP1,hF1⟩
   obtain rfl:=hv
   have hb0:Below w1.heap.size w1 (w1.alloc (.cells #[.string ⟨#[41]⟩] 9)):=(Below.refl _ _).alloc (Nat.le_refl _) _
   have HP1:=Lib.hid (hP1.belowAll hb0)
   have HT:=Lib.hid (takes_no HP1.out [[41]] (Holds.new w1 9 #[.string ⟨#[41]⟩]) (by simp) hs)
   have HF:=Lib.hid (hF1.bel hb0)
   clear hP1 hF1 hb0 hs
   go_wp2_with (fail)
   refine (HT.out).mono ?_
   rintro e w2 ⟨rfl,hb⟩
   have HP2:=Lib.hid (HP1.out.belowAll hb)
   have HF2:=Lib.hid (HF.out.bel hb)
   clear hb HP1 HF HT
   have hml:many E one f j ≠ .out:=fun h=>by have:=HR.out;rw [h] at this;exact HNE.out this.symm
   have HL':=listAstFn f one g fs cs HP2.out HO.out HA.out hml
   cases hm:many E one f j with
   | out=>exact absurd hm hml
   | bad c a=>
    rw [hm] at HL' HR
    have HL:=Lib.hid HL'
    clear hm HL' hml
    go_wp2_with (fail)
    refine (HL.out).mono ?_
    rintro e w3 ⟨rfl,hF⟩
    rw [← HR.out]
    exact ⟨rfl,rfl,HF2.out.trans hF⟩
   | ok l k=>
    rw [hm] at HL' HR
    have HL:=Lib.hid HL'
    clear hm HL' hml
    go_wp2_with (fail)
    refine (HL.out).mono ?_
    rintro e w3 ⟨v3,rfl,hv3,hP3,hF3⟩
    have HP3:=Lib.hid hP3
    have HV3:=Lib.hid (hv3.mono (Wide.from HF2.out.size))
    have hp3:p < w.heap.size:=hp1
    have HF3:=Lib.hid (HF2.out.trans hF3)
    clear hv3 hP3 hF3 HP2 HF2 HL
    have HM':=needFn HP3.out [41]
    have hout:need E [41] k ≠ .out:=need_ne
    cases hn:need E [41] k with
    | out=>exact absurd hn hout
    | bad c a=>
     have hR:=HR.out
     simp only [R.bd,hn] at hR
     rw [hn] at HM'
     have HM:=Lib.hid HM'
     have HR2:=Lib.hid hR
     clear hn HM' hout hR
     go_wp2_with (fail)
     refine (HM.out).mono ?_
     rintro e w4 ⟨rfl,hF⟩
     rw [← HR2.out]
     exact ⟨rfl,rfl,HF3.out.trans hF⟩
    | ok u m=>
     have hR:=HR.out
     simp only [R.bd,hn] at hR
     rw [hn] at HM'
     have HM:=Lib.hid HM'
     have HR2:=Lib.hid hR
     clear hn HM' hout hR
     go_wp2_with (fail)
     refine (HM.out).mono ?_
     rintro e w4 ⟨v4,rfl,hv4,hP4,hF4⟩
     obtain rfl:=hv4
     have HZ:Hid (Out p vl E w (AstsV (From w.heap.size)) Rr (.returned v3) w4):=by
      show Out _ _ _ _ _ _ _ _
      rw [← HR2.out]
      exact ⟨_,rfl,HV3.out.up (Up.keep (Up.of_fp hF4 hp3)),hP4,HF3.out.trans hF4⟩
     clear hP4 hF4
     go_wp2
     go_ret
     exact HZ.out
end Go.Proofs.YtpoghableadkcaaGreatDoor
end
section
/- The walk of message over expressions. -/
namespace Go.Proofs.YtpoghableadkcaaGreatDoor
open Go.RowKit
set_option linter.unusedVariables false
set_option linter.unusedSimpArgs false

set_option maxHeartbeats 2000000 in
set_option maxRecDepth 100000 in
theorem messageAstFn {w:World} {p:Nat} {vl:Value} {E:Env} {i:Nat} (f:Nat) (one:Nat→R (Ast)) (g:Nat) (fs cs:Array Value) (hP:Par w p vl E i) (ho:OneOk p vl E AstV g fs cs one) (hadv:∀ i a k,one i=.ok a k→i ≤ k) (hne:message E one f i ≠ .out):
  Calls Tryz.prog 184 #[.pointer (some ⟨p,0,none⟩),.func (.func g) fs cs] w (Out p vl E w (AstsV (From w.heap.size)) (message E one f i)):=by
 have eg:=ho.enters
 have HO:=Lib.hid ho
 have hp1:=hP.lt
 have HA:=Lib.hid hadv
 have HP:=Lib.hid hP
 obtain ⟨Rr,hRr⟩:∃ Rr,message E one f i=Rr:=⟨_,rfl⟩
 rw [hRr] at hne ⊢
 unfold message at hRr
 have HNE:=Lib.hid hne
 clear ho hadv hne
 cases h1:one i with
 | out=>rw [h1] at hRr;exact absurd hRr.symm HNE.out
 | bad c a=>
  rw [h1] at hRr
  subst hRr
  have HC':=HO.out.calls HP.out (by rw [h1];simp)
  rw [h1] at HC'
  have HC:=Lib.hid HC'
  clear h1 HC' hP
  go_enter Tryz.func184,Tryz.ntmps184
  go_wp2_with (fail)
  refine (HC.out).mono ?_
  rintro e w1 ⟨rfl,hF⟩
  exact ⟨rfl,rfl,hF⟩
 | ok a k=>
  rw [h1] at hRr
  simp only [R.bd] at hRr
  have HRR:=Lib.hid hRr
  have HC':=HO.out.calls HP.out (by rw [h1];simp)
  rw [h1] at HC'
  have HC:=Lib.hid HC'
  clear h1 HC' hRr hP
  go_enter Tryz.func184,Tryz.ntmps184
  go_wp2_with (fail)
  refine (HC.out).mono ?_
  rintro e w1 ⟨v,rfl,hv,hP1,hF1⟩
  obtain ⟨vn,vi,vh,vk,va,rfl,hv⟩:=hv;obtain ⟨z1,y1,x1,z2,y2,x2,z3,y3,x3,z4,y4,x4,z5,y5,x5,rfl,rfl,rfl,rfl,rfl⟩:=hv.forms
  have hv1:AstsF (From w.heap.size) w1 [a] #[.int .i64 (a.kind:Int),.int .i64 a.n,.string ⟨a.name.toArray⟩,.string ⟨a.label.toArray⟩,.slice z1 y1 x1,.slice z2 y2 x2,.slice z3 y3 x3,.slice z4 y4 x4,.slice z5 y5 x5].toList:=(by rw [AstsF];exact ⟨_,_,_,_,_,[],by rfl,hv,by rw [AstsF]⟩)
  have hsz1:=hF1.size
  have hb1:Below w1.heap.size w1 (w1.alloc (.cells #[.int .i64 (a.kind:Int),.int .i64 a.n,.string ⟨a.name.toArray⟩,.string ⟨a.label.toArray⟩,.slice z1 y1 x1,.slice z2 y2 x2,.slice z3 y3 x3,.slice z4 y4 x4,.slice z5 y5 x5] 41)):=(Below.refl _ _).alloc (Nat.le_refl _) _
  have HL1:=Lib.hid (owns_lit (base:=w.heap.size) (Holds.new w1 41 #[.int .i64 (a.kind:Int),.int .i64 a.n,.string ⟨a.name.toArray⟩,.string ⟨a.label.toArray⟩,.slice z1 y1 x1,.slice z2 y2 x2,.slice z3 y3 x3,.slice z4 y4 x4,.slice z5 y5 x5]) hsz1 (by rfl) (by simp))
  have HP1:=Lib.hid (hP1.belowAll hb1)
  have HF1:=Lib.hid (hF1.bel hb1)
  have HE1:=Lib.hid ((AstsF.mono (Wide.new (base:=w.heap.size) (v:=.slice (some ⟨w1.heap.size,0,none⟩) 1 1) rfl (Nat.le_refl _)) [a] hv1).up (Keep.below hb1) [a])
  try clear hv
  clear hv1 hP1 hF1 hb1 hsz1
  unfold Ast.val
  have hfew:=HP.out.few
  have hb2:Below (w1.alloc (.cells #[.int .i64 (a.kind:Int),.int .i64 a.n,.string ⟨a.name.toArray⟩,.string ⟨a.label.toArray⟩,.slice z1 y1 x1,.slice z2 y2 x2,.slice z3 y3 x3,.slice z4 y4 x4,.slice z5 y5 x5] 41)).heap.size (w1.alloc (.cells #[.int .i64 (a.kind:Int),.int .i64 a.n,.string ⟨a.name.toArray⟩,.string ⟨a.label.toArray⟩,.slice z1 y1 x1,.slice z2 y2 x2,.slice z3 y3 x3,.slice z4 y4 x4,.slice z5 y5 x5] 41)) ((w1.alloc (.cells #[.int .i64 (a.kind:Int),.int .i64 a.n,.string ⟨a.name.toArray⟩,.string ⟨a.label.toArray⟩,.slice z1 y1 x1,.slice z2 y2 x2,.slice z3 y3 x3,.slice z4 y4 x4,.slice z5 y5 x5] 41)).alloc (.cells #[.string ⟨#[40]⟩] 9)):=(Below.refl _ _).alloc (Nat.le_refl _) _
  have HPa:=Lib.hid (HP1.out.belowAll hb2)
  have hCm:=Holds.new (w1.alloc (.cells #[.int .i64 (a.kind:Int),.int .i64 a.n,.string ⟨a.name.toArray⟩,.string ⟨a.label.toArray⟩,.slice z1 y1 x1,.slice z2 y2 x2,.slice z3 y3 x3,.slice z4 y4 x4,.slice z5 y5 x5] 41)) 9 #[.string ⟨#[40]⟩]
  rw [show (w1.alloc (.cells #[.int .i64 (a.kind:Int),.int .i64 a.n,.string ⟨a.name.toArray⟩,.string ⟨a.label.toArray⟩,.slice z1 y1 x1,.slice z2 y2 x2,.slice z3 y3 x3,.slice z4 y4 x4,.slice z5 y5 x5] 41)).heap.size=w1.heap.size + 1 by simp] at hCm
  have HCm:=Lib.hid hCm
  clear hCm
  have HFa:=Lib.hid (HF1.out.bel hb2)
  have HLa:=Lib.hid (owns_below HL1.out hb2)
  have HEa:=Lib.hid (HE1.out.up (Keep.below hb2) [a])
  clear hb2 HP1 HF1 HL1 HE1
  cases hs:sees E k [[40]] with
  | true=>
   have hR:=HRR.out
   rw [if_pos hs] at hR
   have HR:=Lib.hid hR
   have HT:=Lib.hid (takes_yes HPa.out [[40]] HCm.out (by simp) hs)
   clear hs hR HRR
   go_wp2_with (fail)
   refine (HT.out).mono ?_
   rintro e w3 ⟨rfl,hP3,hF3⟩
   have HP3:=Lib.hid hP3
   have HL3:=Lib.hid (owns_fp HLa.out hF3 hp1)
   have HE3:=Lib.hid (HEa.out.up (Keep.fp hF3 hp1) [a])
   have HF3:=Lib.hid (HFa.out.trans hF3)
   clear hP3 hF3 HT HPa HLa HEa HFa HCm
   have hml:many E one f (k + 1) ≠ .out:=fun h=>by have:=HR.out;rw [h] at this;exact HNE.out this.symm
   have HL':=listAstFn f one g fs cs HP3.out HO.out HA.out hml
   cases hm:many E one f (k + 1) with
   | out=>exact absurd hm hml
   | bad c a=>
    rw [hm] at HL' HR
    have HM:=Lib.hid HL'
    clear hm HL' hml
    go_wp2_with (fail)
    refine (HM.out).mono ?_
    rintro e w4 ⟨rfl,hF⟩
    rw [← HR.out]
    exact ⟨rfl,rfl,HF3.out.trans hF⟩
   | ok l k4=>
    have hlen:=many_len HA.out hm
    rw [hm] at HL' HR
    have HM:=Lib.hid HL'
    clear hm HL' hml
    go_wp2_with (fail)
    refine (HM.out).mono ?_
    rintro e w4 ⟨v4,rfl,⟨fl,hv4,hE4⟩,hP4,hF4⟩
    obtain ⟨ad,cp,rfl,hcells,hll⟩:=hv4.source hlen.1
    have hk65:=Nat.le_trans hP4.le hP4.few
    have HP4:=Lib.hid hP4
    have HL4:=Lib.hid (owns_fp HL3.out hF4 hp1)
    have hsz:=Nat.le_trans HF3.out.size hF4.size
    have HE4:=Lib.hid (AstsF.append (HE3.out.up (Keep.fp hF4 hp1) [a]) (AstsF.mono (Wide.but2 (w:=w4) (wr:=w4) (base:=w.heap.size) HF3.out.size (owns_lt HL3.out)) l hE4))
    have hone:=AstsF.one l hE4
    have HF4:=Lib.hid (HF3.out.trans hF4)
    clear hv4 hE4 hP4 hF4 HM HP3 HL3 HE3 HF3
    obtain ⟨q,hq⟩:∃ q,l.length=q:=⟨_,rfl⟩
    have HQ:=Lib.hid hq
    rw [hq] at hlen hll
    obtain ⟨i0,z0,hi0,hz0,hz1,hz2,hz3⟩:=info_of listAst_info
    rw [hq]
    clear hq
    go_wp2_with (at_builtin;refine wpList_append_own_at _ rfl (.tmp 12) (.tmp 15) _ rfl w.heap.size 41 i0 z0 9 168 Tryz.underlying35 hi0 hz0 hz1 hz2 hz3 (by omega) (.slice (some ⟨w1.heap.size,0,none⟩) 1 1) 1 #[.int .i64 (a.kind:Int),.int .i64 a.n,.string ⟨a.name.toArray⟩,.string ⟨a.label.toArray⟩,.slice z1 y1 x1,.slice z2 y2 x2,.slice z3 y3 x3,.slice z4 y4 x4,.slice z5 y5 x5].toList rfl (show World.ownsRow w4 w.heap.size 41 9 _ 1 #[.int .i64 (a.kind:Int),.int .i64 a.n,.string ⟨a.name.toArray⟩,.string ⟨a.label.toArray⟩,.slice z1 y1 x1,.slice z2 y2 x2,.slice z3 y3 x3,.slice z4 y4 x4,.slice z5 y5 x5].toList from HL4.out) ad q cp fl rfl hll hcells hone ?c3 ?c4 ?c5 ?_)
    case c3=>unfold maxLen;omega
    case c4=>omega
    case c5=>exact hsz
    intro v' w5 hown5 hgrow _ hat
    have HP5:=Lib.hid (HP4.out.grown hgrow (fun g e=>by have:=owns_ge HL4.out g e;omega))
    have HF5:=Lib.hid (HF4.out.grown hgrow (fun g e=>owns_ge HL4.out g e))
    have HE5:=Lib.hid ((AstsF.mono (Wide.out (w':=w5) hat) ([a] ++ l) ((AstsF.mono Wide.in_ ([a] ++ l) HE4.out).up ((Keep.grown (base:=w.heap.size) hgrow).imp fun k hk=>hk.1) ([a] ++ l))))
    have HL5:Hid (w5.ownsRow w.heap.size 41 9 v' ([a] ++ l).length (#[.int .i64 (a.kind:Int),.int .i64 a.n,.string ⟨a.name.toArray⟩,.string ⟨a.label.toArray⟩,.slice z1 y1 x1,.slice z2 y2 x2,.slice z3 y3 x3,.slice z4 y4 x4,.slice z5 y5 x5].toList ++ fl)):=by
     show World.ownsRow _ _ _ _ _ _ _
     rw [List.length_append,HQ.out]
     exact hown5
    clear hat hgrow hown5 HE4 HL4 HP4 HF4 hone hcells hll
    have HM':=needFn HP5.out [41]
    have hout:need E [41] k4 ≠ .out:=need_ne
    cases hn:need E [41] k4 with
    | out=>exact absurd hn hout
    | bad c a=>
     have hR:=HR.out
     simp only [R.bd,hn] at hR
     rw [hn] at HM'
     have HM:=Lib.hid HM'
     have HR2:=Lib.hid hR
     clear hn HM' hout hR
     go_wp2_with (fail)
     refine (HM.out).mono ?_
     rintro e w6 ⟨rfl,hF⟩
     rw [← HR2.out]
     exact ⟨rfl,rfl,HF5.out.trans hF⟩
    | ok u m=>
     have hR:=HR.out
     simp only [R.bd,hn] at hR
     rw [hn] at HM'
     have HM:=Lib.hid HM'
     have HR2:=Lib.hid hR
     clear hn HM' hout hR
     go_wp2_with (fail)
     refine (HM.out).mono ?_
     rintro e w6 ⟨v6,rfl,hv6,hP6,hF6⟩
     obtain rfl:=hv6
     have HZ:Hid (Out p vl E w (AstsV (From w.heap.size)) Rr (.returned v') w6):=by
      show Out _ _ _ _ _ _ _ _
      rw [← HR2.out]
      exact ⟨_,rfl,⟨_,RowL.of_owns (P:=From w.heap.size) (owns_fp HL5.out hF6 hp1) (fun k hk=>hk),(AstsF.mono Wide.of_but ([a] ++ l) HE5.out).up (Up.keep (Up.of_fp hF6 hp1)) ([a] ++ l)⟩,hP6,HF5.out.trans hF6⟩
     clear hP6 hF6
     go_wp2
     go_ret
     exact HZ.out
  | false=>
   have hR:=HRR.out
   rw [if_neg (by rw [hs];decide)] at hR
   have hRr':(commas E one f k).bd (fun l m=>.ok ([a] ++ l) m)=Rr:=hR
   have HR:=Lib.hid hRr'
   have HT:=Lib.hid (takes_no HPa.out [[40]] HCm.out (by simp) hs)
   clear hs hR hRr' HRR
   go_wp2_with (fail)
   refine (HT.out).mono ?_
   rintro e w2 ⟨rfl,hb⟩
   have HP2:=Lib.hid (HPa.out.belowAll hb)
   have HF2:=Lib.hid (HFa.out.bel hb)
   have HL2:=Lib.hid (owns_below HLa.out hb)
   have HE2:=Lib.hid (HEa.out.up (Keep.below hb) [a])
   clear hb HPa HFa HLa HEa HT HCm
   go_wp2
   go_loopg [5] f (fun gk v wr=>∃ (acc:List (Ast)) (flat:List Value) (j:Nat),j ≤ 65536∧acc.length ≤ j + 1∧Hid ((commas E one gk j).bd (fun l m=>.ok (acc ++ l) m)=Rr)∧Hid (wr.ownsRow w.heap.size 41 9 v acc.length flat)∧Hid (AstsF (But w.heap.size v) wr acc flat)∧Hid (Par wr p vl E j)∧Hid (Fp p w wr))
   case atStart=>exact ⟨[a],_,k,Nat.le_trans HP2.out.le HP2.out.few,by simp,HR,HL2,HE2,HP2,HF2⟩
   case round=>
    clear HR HL2 HE2 HP2 HF2 HC HP
    obtain ⟨acc,flat,j,hj,hacc,HR,HL,HE,HP,HF⟩:=hrel
    obtain ⟨W2,rfl⟩:∃ W,W=wr:=⟨wr,rfl⟩
    cases gk with
    | zero=>exact absurd (HR.out.symm.trans commas_zero) HNE.out
    | succ gk=>
     have hb0:Below W2.heap.size W2 (W2.alloc (.cells #[.string ⟨#[44]⟩] 9)):=(Below.refl _ _).alloc (Nat.le_refl _) _
     have HPa:=Lib.hid (HP.out.belowAll hb0)
     have HCm:=Lib.hid (Holds.new W2 9 #[.string ⟨#[44]⟩])
     have HFa:=Lib.hid (HF.out.bel hb0)
     have HLa:=Lib.hid (owns_below HL.out hb0)
     have HEa:=Lib.hid (HE.out.up (Keep.below hb0) acc)
     clear hb0 HP HF HL HE
     cases hs:sees E j [[44]] with
     | false=>
      have HRj:=Lib.hid ((commas_no (g:=gk) (h:=fun l m=>R.ok (acc ++ l) m) hs).symm.trans HR.out)
      have HT:=Lib.hid (takes_no HPa.out [[44]] HCm.out (by simp) hs)
      clear hs
      go_wp2_with (fail)
      refine (HT.out).mono ?_
      rintro e w3 ⟨rfl,hb⟩
      have hPost:Out p vl E w (AstsV (From w.heap.size)) Rr (.returned u5) w3:=by
       rw [← HRj.out]
       refine ⟨_,rfl,⟨flat,?_,?_⟩,HPa.out.belowAll hb,HFa.out.bel hb⟩
       ·have:=RowL.of_owns (P:=From w.heap.size) (owns_below HLa.out hb) (fun k hk=>hk)
        rwa [List.append_nil]
       ·have:=(AstsF.mono Wide.of_but acc HEa.out).up (Keep.below hb) acc
        rwa [List.append_nil]
      have HPost:=Lib.hid hPost
      clear hb hPost HT
      go_wp2
      go_ret
      exact HPost.out
     | true=>
      have HRj:=Lib.hid ((commas_yes (g:=gk) (h:=fun l m=>R.ok (acc ++ l) m) hs).symm.trans HR.out)
      have HT:=Lib.hid (takes_yes HPa.out [[44]] HCm.out (by simp) hs)
      clear hs
      go_wp2_with (fail)
      refine (HT.out).mono ?_
      rintro e w3 ⟨rfl,hP3,hF3⟩
      have HP3:=Lib.hid hP3
      have HL3:=Lib.hid (owns_fp HLa.out hF3 hp1)
      have HE3:=Lib.hid (HEa.out.up (Keep.fp hF3 hp1) acc)
      have HF3:=Lib.hid (HFa.out.trans hF3)
      clear hP3 hF3 HT HPa HLa HEa HFa HCm
      cases h1:one (j + 1) with
      | out=>rw [h1] at HRj;exact absurd HRj.out.symm HNE.out
      | bad c a=>
       have HC':=HO.out.calls HP3.out (by rw [h1];simp)
       rw [h1] at HC' HRj
       have HC:=Lib.hid HC'
       clear h1 HC'
       go_wp2_with (fail)
       refine (HC.out).mono ?_
       rintro e w4 ⟨rfl,hF⟩
       rw [← HRj.out]
       exact ⟨rfl,rfl,HF3.out.trans hF⟩
      | ok a2 k2=>
       have HC':=HO.out.calls HP3.out (by rw [h1];simp)
       have hk2:=HA.out _ _ _ h1
       rw [h1] at HC' HRj
       have HRk:Hid ((commas E one gk k2).bd (fun l m=>.ok ((acc ++ [a2]) ++ l) m)=Rr):=by
        have:=HRj.out
        show _=_
        rw [← this]
        simp only [List.append_assoc,List.singleton_append]
        rfl
       have HC:=Lib.hid HC'
       clear h1 HC' HRj HR
       go_wp2_with (fail)
       refine (HC.out).mono ?_
       rintro e w4 ⟨v4,rfl,hv,hP4,hF4⟩
       obtain ⟨vn,vi,vh,vk,va,rfl,hv⟩:=hv;obtain ⟨z1,y1,x1,z2,y2,x2,z3,y3,x3,z4,y4,x4,z5,y5,x5,rfl,rfl,rfl,rfl,rfl⟩:=hv.forms
       have hv1:AstsF (From w3.heap.size) w4 [a2] #[.int .i64 (a2.kind:Int),.int .i64 a2.n,.string ⟨a2.name.toArray⟩,.string ⟨a2.label.toArray⟩,.slice z1 y1 x1,.slice z2 y2 x2,.slice z3 y3 x3,.slice z4 y4 x4,.slice z5 y5 x5].toList:=(by rw [AstsF];exact ⟨_,_,_,_,_,[],by rfl,hv,by rw [AstsF]⟩)
       have HP4:=Lib.hid hP4
       have HL4:=Lib.hid (owns_fp HL3.out hF4 hp1)
       have hk65:=Nat.le_trans hP4.le hP4.few
       have hsz:=Nat.le_trans HF3.out.size hF4.size
       have HE4:=Lib.hid (AstsF.append (HE3.out.up (Keep.fp hF4 hp1) acc) (AstsF.mono (Wide.but2 (w:=w4) (wr:=w4) (base:=w.heap.size) HF3.out.size (owns_lt HL3.out)) [a2] hv1))
       have HF4:=Lib.hid (HF3.out.trans hF4)
       try clear hv
       clear hv1 hP4 hF4 HC HP3 HL3 HE3 HF3
       obtain ⟨i0,z0,hi0,hz0,hz1,hz2,hz3⟩:=info_of listAst_info
       have HLb:=Lib.hid (owns_below HL4.out ((Below.refl w4.heap.size w4).alloc (Nat.le_refl _) (.cells #[.int .i64 (a2.kind:Int),.int .i64 a2.n,.string ⟨a2.name.toArray⟩,.string ⟨a2.label.toArray⟩,.slice z1 y1 x1,.slice z2 y2 x2,.slice z3 y3 x3,.slice z4 y4 x4,.slice z5 y5 x5] 41)))
       unfold Ast.val
       go_wp2_with (at_builtin;refine wpList_append_own_at _ rfl (.tmp 23) (.tmp 26) _ rfl w.heap.size 41 i0 z0 9 168 Tryz.underlying35 hi0 hz0 hz1 hz2 hz3 (by omega) _ acc.length flat rfl HLb.out ⟨w4.heap.size,0,none⟩ 1 1 #[.int .i64 (a2.kind:Int),.int .i64 a2.n,.string ⟨a2.name.toArray⟩,.string ⟨a2.label.toArray⟩,.slice z1 y1 x1,.slice z2 y2 x2,.slice z3 y3 x3,.slice z4 y4 x4,.slice z5 y5 x5].toList rfl rfl ?c1 ?c2 ?c3 ?c4 ?c5 ?_)
       case c2=>simp [Value.oneCell']
       case c3=>unfold maxLen;omega
       case c4=>omega
       case c5=>have:=hsz;simp;omega
       intro v' w5 hown5 hgrow _ hat
       have hb4:Below w4.heap.size w4 (w4.alloc (.cells #[.int .i64 (a2.kind:Int),.int .i64 a2.n,.string ⟨a2.name.toArray⟩,.string ⟨a2.label.toArray⟩,.slice z1 y1 x1,.slice z2 y2 x2,.slice z3 y3 x3,.slice z4 y4 x4,.slice z5 y5 x5] 41)):=(Below.refl _ _).alloc (Nat.le_refl _) _
       have hat':v'.ownBlock=u5.ownBlock∨v'.ownBlock=some (w4.alloc (.cells #[.int .i64 (a2.kind:Int),.int .i64 a2.n,.string ⟨a2.name.toArray⟩,.string ⟨a2.label.toArray⟩,.slice z1 y1 x1,.slice z2 y2 x2,.slice z3 y3 x3,.slice z4 y4 x4,.slice z5 y5 x5] 41)).heap.size:=by simpa using hat
       have HP5:=Lib.hid ((HP4.out.belowAll hb4).grown hgrow (fun g e=>by have:=owns_ge HL4.out g e;omega))
       have HF5:=Lib.hid ((HF4.out.bel hb4).grown hgrow (fun g e=>owns_ge HL4.out g e))
       have HE5:=Lib.hid ((AstsF.mono (Wide.out (w':=w5) hat') (acc ++ [a2]) ((AstsF.mono Wide.in_ (acc ++ [a2]) (HE4.out.up (Keep.below hb4) (acc ++ [a2]))).up ((Keep.grown (base:=w.heap.size) hgrow).imp fun k hk=>hk.1) (acc ++ [a2]))))
       have HL5:Hid (w5.ownsRow w.heap.size 41 9 v' (acc ++ [a2]).length (flat ++ #[.int .i64 (a2.kind:Int),.int .i64 a2.n,.string ⟨a2.name.toArray⟩,.string ⟨a2.label.toArray⟩,.slice z1 y1 x1,.slice z2 y2 x2,.slice z3 y3 x3,.slice z4 y4 x4,.slice z5 y5 x5].toList)):=by
        show World.ownsRow _ _ _ _ _ _ _
        rw [List.length_append]
        exact hown5
       clear hb4 hat hat' hgrow hown5 HLb HE4 HL4 HP4 HF4
       go_wp2
       go_roundg gk
       case measure=>omega
       case rel=>exact ⟨acc ++ [a2],_,k2,hk65,by rw [List.length_append,List.length_singleton];omega,HRk,HL5,HE5,HP5,HF5⟩
end Go.Proofs.YtpoghableadkcaaGreatDoor
end
section
/- The walk of message over arguments. -/
namespace Go.Proofs.YtpoghableadkcaaGreatDoor
open Go.RowKit
set_option linter.unusedVariables false
set_option linter.unusedSimpArgs false

set_option maxHeartbeats 2000000 in
set_option maxRecDepth 100000 in
theorem messageArgFn {w:World} {p:Nat} {vl:Value} {E:Env} {i:Nat} (f:Nat) (one:Nat→R (Arg)) (g:Nat) (fs cs:Array Value) (hP:Par w p vl E i) (ho:OneOk p vl E ArgV g fs cs one) (hadv:∀ i a k,one i=.ok a k→i ≤ k) (hne:message E one f i ≠ .out):
  Calls Tryz.prog 160 #[.pointer (some ⟨p,0,none⟩),.func (.func g) fs cs] w (Out p vl E w (ArgsV (From w.heap.size)) (message E one f i)):=by
 have eg:=ho.enters
 have HO:=Lib.hid ho
 have hp1:=hP.lt
 have HA:=Lib.hid hadv
 have HP:=Lib.hid hP
 obtain ⟨Rr,hRr⟩:∃ Rr,message E one f i=Rr:=⟨_,rfl⟩
 rw [hRr] at hne ⊢
 unfold message at hRr
 have HNE:=Lib.hid hne
 clear ho hadv hne
 cases h1:one i with
 | out=>rw [h1] at hRr;exact absurd hRr.symm HNE.out
 | bad c a=>
  rw [h1] at hRr
  subst hRr
  have HC':=HO.out.calls HP.out (by rw [h1];simp)
  rw [h1] at HC'
  have HC:=Lib.hid HC'
  clear h1 HC' hP
  go_enter Tryz.func160,Tryz.ntmps160
  go_wp2_with (fail)
  refine (HC.out).mono ?_
  rintro e w1 ⟨rfl,hF⟩
  exact ⟨rfl,rfl,hF⟩
 | ok a k=>
  rw [h1] at hRr
  simp only [R.bd] at hRr
  have HRR:=Lib.hid hRr
  have HC':=HO.out.calls HP.out (by rw [h1];simp)
  rw [h1] at HC'
  have HC:=Lib.hid HC'
  clear h1 HC' hRr hP
  go_enter Tryz.func160,Tryz.ntmps160
  go_wp2_with (fail)
  refine (HC.out).mono ?_
  rintro e w1 ⟨v,rfl,hv,hP1,hF1⟩
  obtain ⟨vn,vi,vh,vk,va,rfl,hq⟩:=ArgV.open_ hv;clear hv;have hv:=hq;clear hq;obtain ⟨z1,y1,x1,z2,y2,x2,z3,y3,x3,z4,y4,x4,z5,y5,x5,rfl,rfl,rfl,rfl,rfl⟩:=hv.forms
  have hv1:ArgsF (From w.heap.size) w1 [a] #[.bool a.m,.bool a.any,.int .i64 (a.e.kind:Int),.int .i64 a.e.n,.string ⟨a.e.name.toArray⟩,.string ⟨a.e.label.toArray⟩,.slice z1 y1 x1,.slice z2 y2 x2,.slice z3 y3 x3,.slice z4 y4 x4,.slice z5 y5 x5].toList:=(by rw [ArgsF];exact ⟨_,[],by rfl,ArgF.mk hv,by rw [ArgsF]⟩)
  have hsz1:=hF1.size
  have hb1:Below w1.heap.size w1 (w1.alloc (.cells #[.bool a.m,.bool a.any,.int .i64 (a.e.kind:Int),.int .i64 a.e.n,.string ⟨a.e.name.toArray⟩,.string ⟨a.e.label.toArray⟩,.slice z1 y1 x1,.slice z2 y2 x2,.slice z3 y3 x3,.slice z4 y4 x4,.slice z5 y5 x5] 116)):=(Below.refl _ _).alloc (Nat.le_refl _) _
  have HL1:=Lib.hid (owns_lit (base:=w.heap.size) (Holds.new w1 116 #[.bool a.m,.bool a.any,.int .i64 (a.e.kind:Int),.int .i64 a.e.n,.string ⟨a.e.name.toArray⟩,.string ⟨a.e.label.toArray⟩,.slice z1 y1 x1,.slice z2 y2 x2,.slice z3 y3 x3,.slice z4 y4 x4,.slice z5 y5 x5]) hsz1 (by rfl) (by simp))
  have HP1:=Lib.hid (hP1.belowAll hb1)
  have HF1:=Lib.hid (hF1.bel hb1)
  have HE1:=Lib.hid ((ArgsF.mono (Wide.new (base:=w.heap.size) (v:=.slice (some ⟨w1.heap.size,0,none⟩) 1 1) rfl (Nat.le_refl _)) [a] hv1).up (Keep.below hb1) [a])
  try clear hv
  clear hv1 hP1 hF1 hb1 hsz1
  have hfew:=HP.out.few
  have hb2:Below (w1.alloc (.cells #[.bool a.m,.bool a.any,.int .i64 (a.e.kind:Int),.int .i64 a.e.n,.string ⟨a.e.name.toArray⟩,.string ⟨a.e.label.toArray⟩,.slice z1 y1 x1,.slice z2 y2 x2,.slice z3 y3 x3,.slice z4 y4 x4,.slice z5 y5 x5] 116)).heap.size (w1.alloc (.cells #[.bool a.m,.bool a.any,.int .i64 (a.e.kind:Int),.int .i64 a.e.n,.string ⟨a.e.name.toArray⟩,.string ⟨a.e.label.toArray⟩,.slice z1 y1 x1,.slice z2 y2 x2,.slice z3 y3 x3,.slice z4 y4 x4,.slice z5 y5 x5] 116)) ((w1.alloc (.cells #[.bool a.m,.bool a.any,.int .i64 (a.e.kind:Int),.int .i64 a.e.n,.string ⟨a.e.name.toArray⟩,.string ⟨a.e.label.toArray⟩,.slice z1 y1 x1,.slice z2 y2 x2,.slice z3 y3 x3,.slice z4 y4 x4,.slice z5 y5 x5] 116)).alloc (.cells #[.string ⟨#[40]⟩] 9)):=(Below.refl _ _).alloc (Nat.le_refl _) _
  have HPa:=Lib.hid (HP1.out.belowAll hb2)
  have hCm:=Holds.new (w1.alloc (.cells #[.bool a.m,.bool a.any,.int .i64 (a.e.kind:Int),.int .i64 a.e.n,.string ⟨a.e.name.toArray⟩,.string ⟨a.e.label.toArray⟩,.slice z1 y1 x1,.slice z2 y2 x2,.slice z3 y3 x3,.slice z4 y4 x4,.slice z5 y5 x5] 116)) 9 #[.string ⟨#[40]⟩]
  rw [show (w1.alloc (.cells #[.bool a.m,.bool a.any,.int .i64 (a.e.kind:Int),.int .i64 a.e.n,.string ⟨a.e.name.toArray⟩,.string ⟨a.e.label.toArray⟩,.slice z1 y1 x1,.slice z2 y2 x2,.slice z3 y3 x3,.slice z4 y4 x4,.slice z5 y5 x5] 116)).heap.size=w1.heap.size + 1 by simp] at hCm
  have HCm:=Lib.hid hCm
  clear hCm
  have HFa:=Lib.hid (HF1.out.bel hb2)
  have HLa:=Lib.hid (owns_below HL1.out hb2)
  have HEa:=Lib.hid (HE1.out.up (Keep.below hb2) [a])
  clear hb2 HP1 HF1 HL1 HE1
  cases hs:sees E k [[40]] with
  | true=>
   have hR:=HRR.out
   rw [if_pos hs] at hR
   have HR:=Lib.hid hR
   have HT:=Lib.hid (takes_yes HPa.out [[40]] HCm.out (by simp) hs)
   clear hs hR HRR
   go_wp2_with (fail)
   refine (HT.out).mono ?_
   rintro e w3 ⟨rfl,hP3,hF3⟩
   have HP3:=Lib.hid hP3
   have HL3:=Lib.hid (owns_fp HLa.out hF3 hp1)
   have HE3:=Lib.hid (HEa.out.up (Keep.fp hF3 hp1) [a])
   have HF3:=Lib.hid (HFa.out.trans hF3)
   clear hP3 hF3 HT HPa HLa HEa HFa HCm
   have hml:many E one f (k + 1) ≠ .out:=fun h=>by have:=HR.out;rw [h] at this;exact HNE.out this.symm
   have HL':=listArgFn f one g fs cs HP3.out HO.out HA.out hml
   cases hm:many E one f (k + 1) with
   | out=>exact absurd hm hml
   | bad c a=>
    rw [hm] at HL' HR
    have HM:=Lib.hid HL'
    clear hm HL' hml
    go_wp2_with (fail)
    refine (HM.out).mono ?_
    rintro e w4 ⟨rfl,hF⟩
    rw [← HR.out]
    exact ⟨rfl,rfl,HF3.out.trans hF⟩
   | ok l k4=>
    have hlen:=many_len HA.out hm
    rw [hm] at HL' HR
    have HM:=Lib.hid HL'
    clear hm HL' hml
    go_wp2_with (fail)
    refine (HM.out).mono ?_
    rintro e w4 ⟨v4,rfl,⟨fl,hv4,hE4⟩,hP4,hF4⟩
    obtain ⟨ad,cp,rfl,hcells,hll⟩:=hv4.source hlen.1
    have hk65:=Nat.le_trans hP4.le hP4.few
    have HP4:=Lib.hid hP4
    have HL4:=Lib.hid (owns_fp HL3.out hF4 hp1)
    have hsz:=Nat.le_trans HF3.out.size hF4.size
    have HE4:=Lib.hid (ArgsF.append (HE3.out.up (Keep.fp hF4 hp1) [a]) (ArgsF.mono (Wide.but2 (w:=w4) (wr:=w4) (base:=w.heap.size) HF3.out.size (owns_lt HL3.out)) l hE4))
    have hone:=ArgsF.one l hE4
    have HF4:=Lib.hid (HF3.out.trans hF4)
    clear hv4 hE4 hP4 hF4 HM HP3 HL3 HE3 HF3
    obtain ⟨q,hq⟩:∃ q,l.length=q:=⟨_,rfl⟩
    have HQ:=Lib.hid hq
    rw [hq] at hlen hll
    obtain ⟨i0,z0,hi0,hz0,hz1,hz2,hz3⟩:=info_of listArg_info
    rw [hq]
    clear hq
    go_wp2_with (at_builtin;refine wpList_append_own_at _ rfl (.tmp 12) (.tmp 15) _ rfl w.heap.size 116 i0 z0 11 176 Tryz.underlying39 hi0 hz0 hz1 hz2 hz3 (by omega) (.slice (some ⟨w1.heap.size,0,none⟩) 1 1) 1 #[.bool a.m,.bool a.any,.int .i64 (a.e.kind:Int),.int .i64 a.e.n,.string ⟨a.e.name.toArray⟩,.string ⟨a.e.label.toArray⟩,.slice z1 y1 x1,.slice z2 y2 x2,.slice z3 y3 x3,.slice z4 y4 x4,.slice z5 y5 x5].toList rfl (show World.ownsRow w4 w.heap.size 116 11 _ 1 #[.bool a.m,.bool a.any,.int .i64 (a.e.kind:Int),.int .i64 a.e.n,.string ⟨a.e.name.toArray⟩,.string ⟨a.e.label.toArray⟩,.slice z1 y1 x1,.slice z2 y2 x2,.slice z3 y3 x3,.slice z4 y4 x4,.slice z5 y5 x5].toList from HL4.out) ad q cp fl rfl hll hcells hone ?c3 ?c4 ?c5 ?_)
    case c3=>unfold maxLen;omega
    case c4=>omega
    case c5=>exact hsz
    intro v' w5 hown5 hgrow _ hat
    have HP5:=Lib.hid (HP4.out.grown hgrow (fun g e=>by have:=owns_ge HL4.out g e;omega))
    have HF5:=Lib.hid (HF4.out.grown hgrow (fun g e=>owns_ge HL4.out g e))
    have HE5:=Lib.hid ((ArgsF.mono (Wide.out (w':=w5) hat) ([a] ++ l) ((ArgsF.mono Wide.in_ ([a] ++ l) HE4.out).up ((Keep.grown (base:=w.heap.size) hgrow).imp fun k hk=>hk.1) ([a] ++ l))))
    have HL5:Hid (w5.ownsRow w.heap.size 116 11 v' ([a] ++ l).length (#[.bool a.m,.bool a.any,.int .i64 (a.e.kind:Int),.int .i64 a.e.n,.string ⟨a.e.name.toArray⟩,.string ⟨a.e.label.toArray⟩,.slice z1 y1 x1,.slice z2 y2 x2,.slice z3 y3 x3,.slice z4 y4 x4,.slice z5 y5 x5].toList ++ fl)):=by
     show World.ownsRow _ _ _ _ _ _ _
     rw [List.length_append,HQ.out]
     exact hown5
    clear hat hgrow hown5 HE4 HL4 HP4 HF4 hone hcells hll
    have HM':=needFn HP5.out [41]
    have hout:need E [41] k4 ≠ .out:=need_ne
    cases hn:need E [41] k4 with
    | out=>exact absurd hn hout
    | bad c a=>
     have hR:=HR.out
     simp only [R.bd,hn] at hR
     rw [hn] at HM'
     have HM:=Lib.hid HM'
     have HR2:=Lib.hid hR
     clear hn HM' hout hR
     go_wp2_with (fail)
     refine (HM.out).mono ?_
     rintro e w6 ⟨rfl,hF⟩
     rw [← HR2.out]
     exact ⟨rfl,rfl,HF5.out.trans hF⟩
    | ok u m=>
     have hR:=HR.out
     simp only [R.bd,hn] at hR
     rw [hn] at HM'
     have HM:=Lib.hid HM'
     have HR2:=Lib.hid hR
     clear hn HM' hout hR
     go_wp2_with (fail)
     refine (HM.out).mono ?_
     rintro e w6 ⟨v6,rfl,hv6,hP6,hF6⟩
     obtain rfl:=hv6
     have HZ:Hid (Out p vl E w (ArgsV (From w.heap.size)) Rr (.returned v') w6):=by
      show Out _ _ _ _ _ _ _ _
      rw [← HR2.out]
      exact ⟨_,rfl,⟨_,RowL.of_owns (P:=From w.heap.size) (owns_fp HL5.out hF6 hp1) (fun k hk=>hk),(ArgsF.mono Wide.of_but ([a] ++ l) HE5.out).up (Up.keep (Up.of_fp hF6 hp1)) ([a] ++ l)⟩,hP6,HF5.out.trans hF6⟩
     clear hP6 hF6
     go_wp2
     go_ret
     exact HZ.out
  | false=>
   have hR:=HRR.out
   rw [if_neg (by rw [hs];decide)] at hR
   have hRr':(commas E one f k).bd (fun l m=>.ok ([a] ++ l) m)=Rr:=hR
   have HR:=Lib.hid hRr'
   have HT:=Lib.hid (takes_no HPa.out [[40]] HCm.out (by simp) hs)
   clear hs hR hRr' HRR
   go_wp2_with (fail)
   refine (HT.out).mono ?_
   rintro e w2 ⟨rfl,hb⟩
   have HP2:=Lib.hid (HPa.out.belowAll hb)
   have HF2:=Lib.hid (HFa.out.bel hb)
   have HL2:=Lib.hid (owns_below HLa.out hb)
   have HE2:=Lib.hid (HEa.out.up (Keep.below hb) [a])
   clear hb HPa HFa HLa HEa HT HCm
   go_wp2
   go_loopg [5] f (fun gk v wr=>∃ (acc:List (Arg)) (flat:List Value) (j:Nat),j ≤ 65536∧acc.length ≤ j + 1∧Hid ((commas E one gk j).bd (fun l m=>.ok (acc ++ l) m)=Rr)∧Hid (wr.ownsRow w.heap.size 116 11 v acc.length flat)∧Hid (ArgsF (But w.heap.size v) wr acc flat)∧Hid (Par wr p vl E j)∧Hid (Fp p w wr))
   case atStart=>exact ⟨[a],_,k,Nat.le_trans HP2.out.le HP2.out.few,by simp,HR,HL2,HE2,HP2,HF2⟩
   case round=>
    clear HR HL2 HE2 HP2 HF2 HC HP
    obtain ⟨acc,flat,j,hj,hacc,HR,HL,HE,HP,HF⟩:=hrel
    obtain ⟨W2,rfl⟩:∃ W,W=wr:=⟨wr,rfl⟩
    cases gk with
    | zero=>exact absurd (HR.out.symm.trans commas_zero) HNE.out
    | succ gk=>
     have hb0:Below W2.heap.size W2 (W2.alloc (.cells #[.string ⟨#[44]⟩] 9)):=(Below.refl _ _).alloc (Nat.le_refl _) _
     have HPa:=Lib.hid (HP.out.belowAll hb0)
     have HCm:=Lib.hid (Holds.new W2 9 #[.string ⟨#[44]⟩])
     have HFa:=Lib.hid (HF.out.bel hb0)
     have HLa:=Lib.hid (owns_below HL.out hb0)
     have HEa:=Lib.hid (HE.out.up (Keep.below hb0) acc)
     clear hb0 HP HF HL HE
     cases hs:sees E j [[44]] with
     | false=>
      have HRj:=Lib.hid ((commas_no (g:=gk) (h:=fun l m=>R.ok (acc ++ l) m) hs).symm.trans HR.out)
      have HT:=Lib.hid (takes_no HPa.out [[44]] HCm.out (by simp) hs)
      clear hs
      go_wp2_with (fail)
      refine (HT.out).mono ?_
      rintro e w3 ⟨rfl,hb⟩
      have hPost:Out p vl E w (ArgsV (From w.heap.size)) Rr (.returned u5) w3:=by
       rw [← HRj.out]
       refine ⟨_,rfl,⟨flat,?_,?_⟩,HPa.out.belowAll hb,HFa.out.bel hb⟩
       ·have:=RowL.of_owns (P:=From w.heap.size) (owns_below HLa.out hb) (fun k hk=>hk)
        rwa [List.append_nil]
       ·have:=(ArgsF.mono Wide.of_but acc HEa.out).up (Keep.below hb) acc
        rwa [List.append_nil]
      have HPost:=Lib.hid hPost
      clear hb hPost HT
      go_wp2
      go_ret
      exact HPost.out
     | true=>
      have HRj:=Lib.hid ((commas_yes (g:=gk) (h:=fun l m=>R.ok (acc ++ l) m) hs).symm.trans HR.out)
      have HT:=Lib.hid (takes_yes HPa.out [[44]] HCm.out (by simp) hs)
      clear hs
      go_wp2_with (fail)
      refine (HT.out).mono ?_
      rintro e w3 ⟨rfl,hP3,hF3⟩
      have HP3:=Lib.hid hP3
      have HL3:=Lib.hid (owns_fp HLa.out hF3 hp1)
      have HE3:=Lib.hid (HEa.out.up (Keep.fp hF3 hp1) acc)
      have HF3:=Lib.hid (HFa.out.trans hF3)
      clear hP3 hF3 HT HPa HLa HEa HFa HCm
      cases h1:one (j + 1) with
      | out=>rw [h1] at HRj;exact absurd HRj.out.symm HNE.out
      | bad c a=>
       have HC':=HO.out.calls HP3.out (by rw [h1];simp)
       rw [h1] at HC' HRj
       have HC:=Lib.hid HC'
       clear h1 HC'
       go_wp2_with (fail)
       refine (HC.out).mono ?_
       rintro e w4 ⟨rfl,hF⟩
       rw [← HRj.out]
       exact ⟨rfl,rfl,HF3.out.trans hF⟩
      | ok a2 k2=>
       have HC':=HO.out.calls HP3.out (by rw [h1];simp)
       have hk2:=HA.out _ _ _ h1
       rw [h1] at HC' HRj
       have HRk:Hid ((commas E one gk k2).bd (fun l m=>.ok ((acc ++ [a2]) ++ l) m)=Rr):=by
        have:=HRj.out
        show _=_
        rw [← this]
        simp only [List.append_assoc,List.singleton_append]
        rfl
       have HC:=Lib.hid HC'
       clear h1 HC' HRj HR
       go_wp2_with (fail)
       refine (HC.out).mono ?_
       rintro e w4 ⟨v4,rfl,hv,hP4,hF4⟩
       obtain ⟨vn,vi,vh,vk,va,rfl,hq⟩:=ArgV.open_ hv;clear hv;have hv:=hq;clear hq;obtain ⟨z1,y1,x1,z2,y2,x2,z3,y3,x3,z4,y4,x4,z5,y5,x5,rfl,rfl,rfl,rfl,rfl⟩:=hv.forms
       have hv1:ArgsF (From w3.heap.size) w4 [a2] #[.bool a2.m,.bool a2.any,.int .i64 (a2.e.kind:Int),.int .i64 a2.e.n,.string ⟨a2.e.name.toArray⟩,.string ⟨a2.e.label.toArray⟩,.slice z1 y1 x1,.slice z2 y2 x2,.slice z3 y3 x3,.slice z4 y4 x4,.slice z5 y5 x5].toList:=(by rw [ArgsF];exact ⟨_,[],by rfl,ArgF.mk hv,by rw [ArgsF]⟩)
       have HP4:=Lib.hid hP4
       have HL4:=Lib.hid (owns_fp HL3.out hF4 hp1)
       have hk65:=Nat.le_trans hP4.le hP4.few
       have hsz:=Nat.le_trans HF3.out.size hF4.size
       have HE4:=Lib.hid (ArgsF.append (HE3.out.up (Keep.fp hF4 hp1) acc) (ArgsF.mono (Wide.but2 (w:=w4) (wr:=w4) (base:=w.heap.size) HF3.out.size (owns_lt HL3.out)) [a2] hv1))
       have HF4:=Lib.hid (HF3.out.trans hF4)
       try clear hv
       clear hv1 hP4 hF4 HC HP3 HL3 HE3 HF3
       obtain ⟨i0,z0,hi0,hz0,hz1,hz2,hz3⟩:=info_of listArg_info
       have HLb:=Lib.hid (owns_below HL4.out ((Below.refl w4.heap.size w4).alloc (Nat.le_refl _) (.cells #[.bool a2.m,.bool a2.any,.int .i64 (a2.e.kind:Int),.int .i64 a2.e.n,.string ⟨a2.e.name.toArray⟩,.string ⟨a2.e.label.toArray⟩,.slice z1 y1 x1,.slice z2 y2 x2,.slice z3 y3 x3,.slice z4 y4 x4,.slice z5 y5 x5] 116)))
       go_wp2_with (at_builtin;refine wpList_append_own_at _ rfl (.tmp 23) (.tmp 26) _ rfl w.heap.size 116 i0 z0 11 176 Tryz.underlying39 hi0 hz0 hz1 hz2 hz3 (by omega) _ acc.length flat rfl HLb.out ⟨w4.heap.size,0,none⟩ 1 1 #[.bool a2.m,.bool a2.any,.int .i64 (a2.e.kind:Int),.int .i64 a2.e.n,.string ⟨a2.e.name.toArray⟩,.string ⟨a2.e.label.toArray⟩,.slice z1 y1 x1,.slice z2 y2 x2,.slice z3 y3 x3,.slice z4 y4 x4,.slice z5 y5 x5].toList rfl rfl ?c1 ?c2 ?c3 ?c4 ?c5 ?_)
       case c2=>simp [Value.oneCell']
       case c3=>unfold maxLen;omega
       case c4=>omega
       case c5=>have:=hsz;simp;omega
       intro v' w5 hown5 hgrow _ hat
       have hb4:Below w4.heap.size w4 (w4.alloc (.cells #[.bool a2.m,.bool a2.any,.int .i64 (a2.e.kind:Int),.int .i64 a2.e.n,.string ⟨a2.e.name.toArray⟩,.string ⟨a2.e.label.toArray⟩,.slice z1 y1 x1,.slice z2 y2 x2,.slice z3 y3 x3,.slice z4 y4 x4,.slice z5 y5 x5] 116)):=(Below.refl _ _).alloc (Nat.le_refl _) _
       have hat':v'.ownBlock=u5.ownBlock∨v'.ownBlock=some (w4.alloc (.cells #[.bool a2.m,.bool a2.any,.int .i64 (a2.e.kind:Int),.int .i64 a2.e.n,.string ⟨a2.e.name.toArray⟩,.string ⟨a2.e.label.toArray⟩,.slice z1 y1 x1,.slice z2 y2 x2,.slice z3 y3 x3,.slice z4 y4 x4,.slice z5 y5 x5] 116)).heap.size:=by simpa using hat
       have HP5:=Lib.hid ((HP4.out.belowAll hb4).grown hgrow (fun g e=>by have:=owns_ge HL4.out g e;omega))
       have HF5:=Lib.hid ((HF4.out.bel hb4).grown hgrow (fun g e=>owns_ge HL4.out g e))
       have HE5:=Lib.hid ((ArgsF.mono (Wide.out (w':=w5) hat') (acc ++ [a2]) ((ArgsF.mono Wide.in_ (acc ++ [a2]) (HE4.out.up (Keep.below hb4) (acc ++ [a2]))).up ((Keep.grown (base:=w.heap.size) hgrow).imp fun k hk=>hk.1) (acc ++ [a2]))))
       have HL5:Hid (w5.ownsRow w.heap.size 116 11 v' (acc ++ [a2]).length (flat ++ #[.bool a2.m,.bool a2.any,.int .i64 (a2.e.kind:Int),.int .i64 a2.e.n,.string ⟨a2.e.name.toArray⟩,.string ⟨a2.e.label.toArray⟩,.slice z1 y1 x1,.slice z2 y2 x2,.slice z3 y3 x3,.slice z4 y4 x4,.slice z5 y5 x5].toList)):=by
        show World.ownsRow _ _ _ _ _ _ _
        rw [List.length_append]
        exact hown5
       clear hb4 hat hat' hgrow hown5 HLb HE4 HL4 HP4 HF4
       go_wp2
       go_roundg gk
       case measure=>omega
       case rel=>exact ⟨acc ++ [a2],_,k2,hk65,by rw [List.length_append,List.length_singleton];omega,HRk,HL5,HE5,HP5,HF5⟩
end Go.Proofs.YtpoghableadkcaaGreatDoor
end
