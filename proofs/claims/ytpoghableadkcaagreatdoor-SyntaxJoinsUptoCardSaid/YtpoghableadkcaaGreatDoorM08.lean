/- ListAst, ListStr, ListInt, ListArg, joined. -/
import Derived.Test.YtpoghableadkcaaGreatDoorM07
import Derived.Deep.LoopGhost
section
/- The walk of list over expressions. -/
namespace Go.Proofs.YtpoghableadkcaaGreatDoor
open Go.RowKit
set_option linter.unusedVariables false
set_option linter.unusedSimpArgs false

theorem listAst_info:(Tryz.prog.info? 41).map (fun i=>(i.zero.map fun z=>z.cells.size,i.size,i.bytes))=some (some 9,9,168):=by kernel_rfl

set_option maxHeartbeats 2000000 in
set_option maxRecDepth 100000 in
theorem listAstFn {w:World} {p:Nat} {vl:Value} {E:Env} {i:Nat} (f:Nat) (one:Nat→R (Ast)) (g:Nat) (fs cs:Array Value) (hP:Par w p vl E i) (ho:OneOk p vl E AstV g fs cs one) (hadv:∀ i a k,one i=.ok a k→i ≤ k) (hne:many E one f i ≠ .out):
  Calls Tryz.prog 162 #[.pointer (some ⟨p,0,none⟩),.func (.func g) fs cs] w (Out p vl E w (AstsV (From w.heap.size)) (many E one f i)):=by
 have eg:=ho.enters
 have HO:=Lib.hid ho
 have hp1:=hP.lt
 have HA:=Lib.hid hadv
 have HP:=Lib.hid hP
 obtain ⟨Rr,hRr⟩:∃ Rr,many E one f i=Rr:=⟨_,rfl⟩
 rw [hRr] at hne ⊢
 unfold many at hRr
 have HNE:=Lib.hid hne
 clear ho hadv hne
 cases h1:one i with
 | out=>rw [h1] at hRr;exact absurd hRr.symm HNE.out
 | bad c a=>
  rw [h1] at hRr
  subst hRr
  have HC':=HO.out.calls HP.out (by rw [h1];simp)
  rw [h1] at HC'
  have HC:=Lib.hid HC'
  clear h1 HC' hP
  go_enter Tryz.func162,Tryz.ntmps162
  go_wp2_with (fail)
  refine (HC.out).mono ?_
  rintro e w1 ⟨rfl,hF⟩
  exact ⟨rfl,rfl,hF⟩
 | ok a k=>
  rw [h1] at hRr
  have hRr':(commas E one f k).bd (fun l m=>.ok ([a] ++ l) m)=Rr:=hRr
  have HR:=Lib.hid hRr'
  have HC':=HO.out.calls HP.out (by rw [h1];simp)
  rw [h1] at HC'
  have HC:=Lib.hid HC'
  clear h1 HC' hRr' hRr hP
  go_enter Tryz.func162,Tryz.ntmps162
  go_wp2_with (fail)
  refine (HC.out).mono ?_
  rintro e w1 ⟨v,rfl,hv,hP1,hF1⟩
  obtain ⟨vn,vi,vh,vk,va,rfl,hv⟩:=hv;obtain ⟨z1,y1,x1,z2,y2,x2,z3,y3,x3,z4,y4,x4,z5,y5,x5,rfl,rfl,rfl,rfl,rfl⟩:=hv.forms
  have hv1:AstsF (From w.heap.size) w1 [a] #[.int .i64 (a.kind:Int),.int .i64 a.n,.string ⟨a.name.toArray⟩,.string ⟨a.label.toArray⟩,.slice z1 y1 x1,.slice z2 y2 x2,.slice z3 y3 x3,.slice z4 y4 x4,.slice z5 y5 x5].toList:=(by rw [AstsF];exact ⟨_,_,_,_,_,[],by rfl,hv,by rw [AstsF]⟩)
  have hsz1:=hF1.size
  have hb1:Below w1.heap.size w1 (w1.alloc (.cells #[.int .i64 (a.kind:Int),.int .i64 a.n,.string ⟨a.name.toArray⟩,.string ⟨a.label.toArray⟩,.slice z1 y1 x1,.slice z2 y2 x2,.slice z3 y3 x3,.slice z4 y4 x4,.slice z5 y5 x5] 41)):=(Below.refl _ _).alloc (Nat.le_refl _) _
  have HL1:=Lib.hid (owns_lit (base:=w.heap.size) (Holds.new w1 41 #[.int .i64 (a.kind:Int),.int .i64 a.n,.string ⟨a.name.toArray⟩,.string ⟨a.label.toArray⟩,.slice z1 y1 x1,.slice z2 y2 x2,.slice z3 y3 x3,.slice z4 y4 x4,.slice z5 y5 x5]) hsz1 (by rfl) (by simp))
  have HP1:=Lib.hid (hP1.belowAll hb1)
  have HF1:=Lib.hid (hF1.bel hb1)
  have HE1:=Lib.hid ((AstsF.mono (Wide.new (base:=w.heap.size) (v:=.slice (some ⟨w1.heap.size,0,none⟩) 1 1) rfl (Nat.le_refl _)) [a] hv1).up (Keep.below hb1) [a])
  try clear hv
  clear hv1 hP1 hF1 hb1 hsz1
  unfold Ast.val
  go_wp2
  have hfew:=HP.out.few
  go_loopg [5] f (fun gk v wr=>∃ (acc:List (Ast)) (flat:List Value) (j:Nat),j ≤ 65536∧acc.length ≤ j + 1∧Hid ((commas E one gk j).bd (fun l m=>.ok (acc ++ l) m)=Rr)∧Hid (wr.ownsRow w.heap.size 41 9 v acc.length flat)∧Hid (AstsF (But w.heap.size v) wr acc flat)∧Hid (Par wr p vl E j)∧Hid (Fp p w wr))
  case atStart=>exact ⟨[a],_,k,Nat.le_trans HP1.out.le HP1.out.few,by simp,HR,HL1,HE1,HP1,HF1⟩
  case round=>
   clear HR HL1 HE1 HP1 HF1 HC HP
   obtain ⟨acc,flat,j,hj,hacc,HR,HL,HE,HP,HF⟩:=hrel
   obtain ⟨W2,rfl⟩:∃ W,W=wr:=⟨wr,rfl⟩
   cases gk with
   | zero=>exact absurd (HR.out.symm.trans commas_zero) HNE.out
   | succ gk=>
    have hb0:Below W2.heap.size W2 (W2.alloc (.cells #[.string ⟨#[44]⟩] 9)):=(Below.refl _ _).alloc (Nat.le_refl _) _
    have HPa:=Lib.hid (HP.out.belowAll hb0)
    have HCm:=Lib.hid (Holds.new W2 9 #[.string ⟨#[44]⟩])
    have HFa:=Lib.hid (HF.out.bel hb0)
    have HLa:=Lib.hid (owns_below HL.out hb0)
    have HEa:=Lib.hid (HE.out.up (Keep.below hb0) acc)
    clear hb0 HP HF HL HE
    cases hs:sees E j [[44]] with
    | false=>
     have HRj:=Lib.hid ((commas_no (g:=gk) (h:=fun l m=>R.ok (acc ++ l) m) hs).symm.trans HR.out)
     have HT:=Lib.hid (takes_no HPa.out [[44]] HCm.out (by simp) hs)
     clear hs
     go_wp2_with (fail)
     refine (HT.out).mono ?_
     rintro e w3 ⟨rfl,hb⟩
     have hPost:Out p vl E w (AstsV (From w.heap.size)) Rr (.returned u5) w3:=by
      rw [← HRj.out]
      refine ⟨_,rfl,⟨flat,?_,?_⟩,HPa.out.belowAll hb,HFa.out.bel hb⟩
      ·have:=RowL.of_owns (P:=From w.heap.size) (owns_below HLa.out hb) (fun k hk=>hk)
       rwa [List.append_nil]
      ·have:=(AstsF.mono Wide.of_but acc HEa.out).up (Keep.below hb) acc
       rwa [List.append_nil]
     have HPost:=Lib.hid hPost
     clear hb hPost HT
     go_wp2
     go_ret
     exact HPost.out
    | true=>
     have HRj:=Lib.hid ((commas_yes (g:=gk) (h:=fun l m=>R.ok (acc ++ l) m) hs).symm.trans HR.out)
     have HT:=Lib.hid (takes_yes HPa.out [[44]] HCm.out (by simp) hs)
     clear hs
     go_wp2_with (fail)
     refine (HT.out).mono ?_
     rintro e w3 ⟨rfl,hP3,hF3⟩
     have HP3:=Lib.hid hP3
     have HL3:=Lib.hid (owns_fp HLa.out hF3 hp1)
     have HE3:=Lib.hid (HEa.out.up (Keep.fp hF3 hp1) acc)
     have HF3:=Lib.hid (HFa.out.trans hF3)
     clear hP3 hF3 HT HPa HLa HEa HFa HCm
     cases h1:one (j + 1) with
     | out=>rw [h1] at HRj;exact absurd HRj.out.symm HNE.out
     | bad c a=>
      have HC':=HO.out.calls HP3.out (by rw [h1];simp)
      rw [h1] at HC' HRj
      have HC:=Lib.hid HC'
      clear h1 HC'
      go_wp2_with (fail)
      refine (HC.out).mono ?_
      rintro e w4 ⟨rfl,hF⟩
      rw [← HRj.out]
      exact ⟨rfl,rfl,HF3.out.trans hF⟩
     | ok a2 k2=>
      have HC':=HO.out.calls HP3.out (by rw [h1];simp)
      have hk2:=HA.out _ _ _ h1
      rw [h1] at HC' HRj
      have HRk:Hid ((commas E one gk k2).bd (fun l m=>.ok ((acc ++ [a2]) ++ l) m)=Rr):=by
       have:=HRj.out
       show _=_
       rw [← this]
       simp only [List.append_assoc,List.singleton_append]
       rfl
      have HC:=Lib.hid HC'
      clear h1 HC' HRj HR
      go_wp2_with (fail)
      refine (HC.out).mono ?_
      rintro e w4 ⟨v4,rfl,hv,hP4,hF4⟩
      obtain ⟨vn,vi,vh,vk,va,rfl,hv⟩:=hv;obtain ⟨z1,y1,x1,z2,y2,x2,z3,y3,x3,z4,y4,x4,z5,y5,x5,rfl,rfl,rfl,rfl,rfl⟩:=hv.forms
      have hv1:AstsF (From w3.heap.size) w4 [a2] #[.int .i64 (a2.kind:Int),.int .i64 a2.n,.string ⟨a2.name.toArray⟩,.string ⟨a2.label.toArray⟩,.slice z1 y1 x1,.slice z2 y2 x2,.slice z3 y3 x3,.slice z4 y4 x4,.slice z5 y5 x5].toList:=(by rw [AstsF];exact ⟨_,_,_,_,_,[],by rfl,hv,by rw [AstsF]⟩)
      have HP4:=Lib.hid hP4
      have HL4:=Lib.hid (owns_fp HL3.out hF4 hp1)
      have hk65:=Nat.le_trans hP4.le hP4.few
      have hsz:=Nat.le_trans HF3.out.size hF4.size
      have HE4:=Lib.hid (AstsF.append (HE3.out.up (Keep.fp hF4 hp1) acc) (AstsF.mono (Wide.but2 (w:=w4) (wr:=w4) (base:=w.heap.size) HF3.out.size (owns_lt HL3.out)) [a2] hv1))
      have HF4:=Lib.hid (HF3.out.trans hF4)
      try clear hv
      clear hv1 hP4 hF4 HC HP3 HL3 HE3 HF3
      obtain ⟨i0,z0,hi0,hz0,hz1,hz2,hz3⟩:=info_of listAst_info
      have HLb:=Lib.hid (owns_below HL4.out ((Below.refl w4.heap.size w4).alloc (Nat.le_refl _) (.cells #[.int .i64 (a2.kind:Int),.int .i64 a2.n,.string ⟨a2.name.toArray⟩,.string ⟨a2.label.toArray⟩,.slice z1 y1 x1,.slice z2 y2 x2,.slice z3 y3 x3,.slice z4 y4 x4,.slice z5 y5 x5] 41)))
      unfold Ast.val
      go_wp2_with (at_builtin;refine wpList_append_own_at _ rfl (.tmp 12) (.tmp 15) _ rfl w.heap.size 41 i0 z0 9 168 Tryz.underlying35 hi0 hz0 hz1 hz2 hz3 (by omega) _ acc.length flat rfl HLb.out ⟨w4.heap.size,0,none⟩ 1 1 #[.int .i64 (a2.kind:Int),.int .i64 a2.n,.string ⟨a2.name.toArray⟩,.string ⟨a2.label.toArray⟩,.slice z1 y1 x1,.slice z2 y2 x2,.slice z3 y3 x3,.slice z4 y4 x4,.slice z5 y5 x5].toList rfl rfl ?c1 ?c2 ?c3 ?c4 ?c5 ?_)
      case c2=>simp [Value.oneCell']
      case c3=>unfold maxLen;omega
      case c4=>omega
      case c5=>have:=hsz;simp;omega
      intro v' w5 hown5 hgrow _ hat
      have hb4:Below w4.heap.size w4 (w4.alloc (.cells #[.int .i64 (a2.kind:Int),.int .i64 a2.n,.string ⟨a2.name.toArray⟩,.string ⟨a2.label.toArray⟩,.slice z1 y1 x1,.slice z2 y2 x2,.slice z3 y3 x3,.slice z4 y4 x4,.slice z5 y5 x5] 41)):=(Below.refl _ _).alloc (Nat.le_refl _) _
      have hat':v'.ownBlock=u5.ownBlock∨v'.ownBlock=some (w4.alloc (.cells #[.int .i64 (a2.kind:Int),.int .i64 a2.n,.string ⟨a2.name.toArray⟩,.string ⟨a2.label.toArray⟩,.slice z1 y1 x1,.slice z2 y2 x2,.slice z3 y3 x3,.slice z4 y4 x4,.slice z5 y5 x5] 41)).heap.size:=by simpa using hat
      have HP5:=Lib.hid ((HP4.out.belowAll hb4).grown hgrow (fun g e=>by have:=owns_ge HL4.out g e;omega))
      have HF5:=Lib.hid ((HF4.out.bel hb4).grown hgrow (fun g e=>owns_ge HL4.out g e))
      have HE5:=Lib.hid ((AstsF.mono (Wide.out (w':=w5) hat') (acc ++ [a2]) ((AstsF.mono Wide.in_ (acc ++ [a2]) (HE4.out.up (Keep.below hb4) (acc ++ [a2]))).up ((Keep.grown (base:=w.heap.size) hgrow).imp fun k hk=>hk.1) (acc ++ [a2]))))
      have HL5:Hid (w5.ownsRow w.heap.size 41 9 v' (acc ++ [a2]).length (flat ++ #[.int .i64 (a2.kind:Int),.int .i64 a2.n,.string ⟨a2.name.toArray⟩,.string ⟨a2.label.toArray⟩,.slice z1 y1 x1,.slice z2 y2 x2,.slice z3 y3 x3,.slice z4 y4 x4,.slice z5 y5 x5].toList)):=by
       show World.ownsRow _ _ _ _ _ _ _
       rw [List.length_append]
       exact hown5
      clear hb4 hat hat' hgrow hown5 HLb HE4 HL4 HP4 HF4
      go_wp2
      go_roundg gk
      case measure=>omega
      case rel=>exact ⟨acc ++ [a2],_,k2,hk65,by rw [List.length_append,List.length_singleton];omega,HRk,HL5,HE5,HP5,HF5⟩
end Go.Proofs.YtpoghableadkcaaGreatDoor
end
section
/- The walk of list over texts. -/
namespace Go.Proofs.YtpoghableadkcaaGreatDoor
open Go.RowKit
set_option linter.unusedVariables false
set_option linter.unusedSimpArgs false

theorem listStr_info:(Tryz.prog.info? 9).map (fun i=>(i.zero.map fun z=>z.cells.size,i.size,i.bytes))=some (some 1,1,16):=by kernel_rfl

set_option maxHeartbeats 2000000 in
set_option maxRecDepth 100000 in
theorem listStrFn {w:World} {p:Nat} {vl:Value} {E:Env} {i:Nat} (f:Nat) (one:Nat→R (Bs)) (g:Nat) (fs cs:Array Value) (hP:Par w p vl E i) (ho:OneOk p vl E StrE g fs cs one) (hadv:∀ i a k,one i=.ok a k→i ≤ k) (hne:many E one f i ≠ .out):
  Calls Tryz.prog 51 #[.pointer (some ⟨p,0,none⟩),.func (.func g) fs cs] w (Out p vl E w (StrsE (From w.heap.size)) (many E one f i)):=by
 have eg:=ho.enters
 have HO:=Lib.hid ho
 have hp1:=hP.lt
 have HA:=Lib.hid hadv
 have HP:=Lib.hid hP
 obtain ⟨Rr,hRr⟩:∃ Rr,many E one f i=Rr:=⟨_,rfl⟩
 rw [hRr] at hne ⊢
 unfold many at hRr
 have HNE:=Lib.hid hne
 clear ho hadv hne
 cases h1:one i with
 | out=>rw [h1] at hRr;exact absurd hRr.symm HNE.out
 | bad c a=>
  rw [h1] at hRr
  subst hRr
  have HC':=HO.out.calls HP.out (by rw [h1];simp)
  rw [h1] at HC'
  have HC:=Lib.hid HC'
  clear h1 HC' hP
  go_enter Tryz.func51,Tryz.ntmps51
  go_wp2_with (fail)
  refine (HC.out).mono ?_
  rintro e w1 ⟨rfl,hF⟩
  exact ⟨rfl,rfl,hF⟩
 | ok a k=>
  rw [h1] at hRr
  have hRr':(commas E one f k).bd (fun l m=>.ok ([a] ++ l) m)=Rr:=hRr
  have HR:=Lib.hid hRr'
  have HC':=HO.out.calls HP.out (by rw [h1];simp)
  rw [h1] at HC'
  have HC:=Lib.hid HC'
  clear h1 HC' hRr' hRr hP
  go_enter Tryz.func51,Tryz.ntmps51
  go_wp2_with (fail)
  refine (HC.out).mono ?_
  rintro e w1 ⟨v,rfl,hv,hP1,hF1⟩
  obtain rfl:=hv
  have hv1:StrsF (From w.heap.size) w1 [a] #[.string ⟨a.toArray⟩].toList:=rfl
  have hsz1:=hF1.size
  have hb1:Below w1.heap.size w1 (w1.alloc (.cells #[.string ⟨a.toArray⟩] 9)):=(Below.refl _ _).alloc (Nat.le_refl _) _
  have HL1:=Lib.hid (owns_lit (base:=w.heap.size) (Holds.new w1 9 #[.string ⟨a.toArray⟩]) hsz1 (by rfl) (by simp))
  have HP1:=Lib.hid (hP1.belowAll hb1)
  have HF1:=Lib.hid (hF1.bel hb1)
  have HE1:=Lib.hid ((StrsF.mono (Wide.new (base:=w.heap.size) (v:=.slice (some ⟨w1.heap.size,0,none⟩) 1 1) rfl (Nat.le_refl _)) [a] hv1).up (Keep.below hb1) [a])
  try clear hv
  clear hv1 hP1 hF1 hb1 hsz1
  go_wp2
  have hfew:=HP.out.few
  go_loopg [5] f (fun gk v wr=>∃ (acc:List (Bs)) (flat:List Value) (j:Nat),j ≤ 65536∧acc.length ≤ j + 1∧Hid ((commas E one gk j).bd (fun l m=>.ok (acc ++ l) m)=Rr)∧Hid (wr.ownsRow w.heap.size 9 1 v acc.length flat)∧Hid (StrsF (But w.heap.size v) wr acc flat)∧Hid (Par wr p vl E j)∧Hid (Fp p w wr))
  case atStart=>exact ⟨[a],_,k,Nat.le_trans HP1.out.le HP1.out.few,by simp,HR,HL1,HE1,HP1,HF1⟩
  case round=>
   clear HR HL1 HE1 HP1 HF1 HC HP
   obtain ⟨acc,flat,j,hj,hacc,HR,HL,HE,HP,HF⟩:=hrel
   obtain ⟨W2,rfl⟩:∃ W,W=wr:=⟨wr,rfl⟩
   cases gk with
   | zero=>exact absurd (HR.out.symm.trans commas_zero) HNE.out
   | succ gk=>
    have hb0:Below W2.heap.size W2 (W2.alloc (.cells #[.string ⟨#[44]⟩] 9)):=(Below.refl _ _).alloc (Nat.le_refl _) _
    have HPa:=Lib.hid (HP.out.belowAll hb0)
    have HCm:=Lib.hid (Holds.new W2 9 #[.string ⟨#[44]⟩])
    have HFa:=Lib.hid (HF.out.bel hb0)
    have HLa:=Lib.hid (owns_below HL.out hb0)
    have HEa:=Lib.hid (HE.out.up (Keep.below hb0) acc)
    clear hb0 HP HF HL HE
    cases hs:sees E j [[44]] with
    | false=>
     have HRj:=Lib.hid ((commas_no (g:=gk) (h:=fun l m=>R.ok (acc ++ l) m) hs).symm.trans HR.out)
     have HT:=Lib.hid (takes_no HPa.out [[44]] HCm.out (by simp) hs)
     clear hs
     go_wp2_with (fail)
     refine (HT.out).mono ?_
     rintro e w3 ⟨rfl,hb⟩
     have hPost:Out p vl E w (StrsE (From w.heap.size)) Rr (.returned u5) w3:=by
      rw [← HRj.out]
      refine ⟨_,rfl,⟨flat,?_,?_⟩,HPa.out.belowAll hb,HFa.out.bel hb⟩
      ·have:=RowL.of_owns (P:=From w.heap.size) (owns_below HLa.out hb) (fun k hk=>hk)
       rwa [List.append_nil]
      ·have:=(StrsF.mono Wide.of_but acc HEa.out).up (Keep.below hb) acc
       rwa [List.append_nil]
     have HPost:=Lib.hid hPost
     clear hb hPost HT
     go_wp2
     go_ret
     exact HPost.out
    | true=>
     have HRj:=Lib.hid ((commas_yes (g:=gk) (h:=fun l m=>R.ok (acc ++ l) m) hs).symm.trans HR.out)
     have HT:=Lib.hid (takes_yes HPa.out [[44]] HCm.out (by simp) hs)
     clear hs
     go_wp2_with (fail)
     refine (HT.out).mono ?_
     rintro e w3 ⟨rfl,hP3,hF3⟩
     have HP3:=Lib.hid hP3
     have HL3:=Lib.hid (owns_fp HLa.out hF3 hp1)
     have HE3:=Lib.hid (HEa.out.up (Keep.fp hF3 hp1) acc)
     have HF3:=Lib.hid (HFa.out.trans hF3)
     clear hP3 hF3 HT HPa HLa HEa HFa HCm
     cases h1:one (j + 1) with
     | out=>rw [h1] at HRj;exact absurd HRj.out.symm HNE.out
     | bad c a=>
      have HC':=HO.out.calls HP3.out (by rw [h1];simp)
      rw [h1] at HC' HRj
      have HC:=Lib.hid HC'
      clear h1 HC'
      go_wp2_with (fail)
      refine (HC.out).mono ?_
      rintro e w4 ⟨rfl,hF⟩
      rw [← HRj.out]
      exact ⟨rfl,rfl,HF3.out.trans hF⟩
     | ok a2 k2=>
      have HC':=HO.out.calls HP3.out (by rw [h1];simp)
      have hk2:=HA.out _ _ _ h1
      rw [h1] at HC' HRj
      have HRk:Hid ((commas E one gk k2).bd (fun l m=>.ok ((acc ++ [a2]) ++ l) m)=Rr):=by
       have:=HRj.out
       show _=_
       rw [← this]
       simp only [List.append_assoc,List.singleton_append]
       rfl
      have HC:=Lib.hid HC'
      clear h1 HC' HRj HR
      go_wp2_with (fail)
      refine (HC.out).mono ?_
      rintro e w4 ⟨v4,rfl,hv,hP4,hF4⟩
      obtain rfl:=hv
      have hv1:StrsF (From w3.heap.size) w4 [a2] #[.string ⟨a2.toArray⟩].toList:=rfl
      have HP4:=Lib.hid hP4
      have HL4:=Lib.hid (owns_fp HL3.out hF4 hp1)
      have hk65:=Nat.le_trans hP4.le hP4.few
      have hsz:=Nat.le_trans HF3.out.size hF4.size
      have HE4:=Lib.hid (StrsF.append (HE3.out.up (Keep.fp hF4 hp1) acc) (StrsF.mono (Wide.but2 (w:=w4) (wr:=w4) (base:=w.heap.size) HF3.out.size (owns_lt HL3.out)) [a2] hv1))
      have HF4:=Lib.hid (HF3.out.trans hF4)
      try clear hv
      clear hv1 hP4 hF4 HC HP3 HL3 HE3 HF3
      obtain ⟨i0,z0,hi0,hz0,hz1,hz2,hz3⟩:=info_of listStr_info
      have HLb:=Lib.hid (owns_below HL4.out ((Below.refl w4.heap.size w4).alloc (Nat.le_refl _) (.cells #[.string ⟨a2.toArray⟩] 9)))
      go_wp2_with (at_builtin;refine wpList_append_own_at _ rfl (.tmp 12) (.tmp 15) _ rfl w.heap.size 9 i0 z0 1 16 Tryz.underlying34 hi0 hz0 hz1 hz2 hz3 (by omega) _ acc.length flat rfl HLb.out ⟨w4.heap.size,0,none⟩ 1 1 #[.string ⟨a2.toArray⟩].toList rfl rfl ?c1 ?c2 ?c3 ?c4 ?c5 ?_)
      case c2=>simp [Value.oneCell']
      case c3=>unfold maxLen;omega
      case c4=>omega
      case c5=>have:=hsz;simp;omega
      intro v' w5 hown5 hgrow _ hat
      have hb4:Below w4.heap.size w4 (w4.alloc (.cells #[.string ⟨a2.toArray⟩] 9)):=(Below.refl _ _).alloc (Nat.le_refl _) _
      have hat':v'.ownBlock=u5.ownBlock∨v'.ownBlock=some (w4.alloc (.cells #[.string ⟨a2.toArray⟩] 9)).heap.size:=by simpa using hat
      have HP5:=Lib.hid ((HP4.out.belowAll hb4).grown hgrow (fun g e=>by have:=owns_ge HL4.out g e;omega))
      have HF5:=Lib.hid ((HF4.out.bel hb4).grown hgrow (fun g e=>owns_ge HL4.out g e))
      have HE5:=Lib.hid ((StrsF.mono (Wide.out (w':=w5) hat') (acc ++ [a2]) ((StrsF.mono Wide.in_ (acc ++ [a2]) (HE4.out.up (Keep.below hb4) (acc ++ [a2]))).up ((Keep.grown (base:=w.heap.size) hgrow).imp fun k hk=>hk.1) (acc ++ [a2]))))
      have HL5:Hid (w5.ownsRow w.heap.size 9 1 v' (acc ++ [a2]).length (flat ++ #[.string ⟨a2.toArray⟩].toList)):=by
       show World.ownsRow _ _ _ _ _ _ _
       rw [List.length_append]
       exact hown5
      clear hb4 hat hat' hgrow hown5 HLb HE4 HL4 HP4 HF4
      go_wp2
      go_roundg gk
      case measure=>omega
      case rel=>exact ⟨acc ++ [a2],_,k2,hk65,by rw [List.length_append,List.length_singleton];omega,HRk,HL5,HE5,HP5,HF5⟩
end Go.Proofs.YtpoghableadkcaaGreatDoor
end
section
/- The walk of list over numbers. -/
namespace Go.Proofs.YtpoghableadkcaaGreatDoor
open Go.RowKit
set_option linter.unusedVariables false
set_option linter.unusedSimpArgs false

theorem listInt_info:(Tryz.prog.info? 3).map (fun i=>(i.zero.map fun z=>z.cells.size,i.size,i.bytes))=some (some 1,1,8):=by kernel_rfl

set_option maxHeartbeats 2000000 in
set_option maxRecDepth 100000 in
theorem listIntFn {w:World} {p:Nat} {vl:Value} {E:Env} {i:Nat} (f:Nat) (one:Nat→R (Nat)) (g:Nat) (fs cs:Array Value) (hP:Par w p vl E i) (ho:OneAt w p vl E IntE g fs cs one) (hadv:∀ i a k,one i=.ok a k→i ≤ k) (hne:many E one f i ≠ .out):
  Calls Tryz.prog 141 #[.pointer (some ⟨p,0,none⟩),.func (.func g) fs cs] w (Out p vl E w (IntsE (From w.heap.size)) (many E one f i)):=by
 have eg:=ho.enters
 have HO:=Lib.hid ho
 have hp1:=hP.lt
 have HA:=Lib.hid hadv
 have HP:=Lib.hid hP
 obtain ⟨Rr,hRr⟩:∃ Rr,many E one f i=Rr:=⟨_,rfl⟩
 rw [hRr] at hne ⊢
 unfold many at hRr
 have HNE:=Lib.hid hne
 clear ho hadv hne
 cases h1:one i with
 | out=>rw [h1] at hRr;exact absurd hRr.symm HNE.out
 | bad c a=>
  rw [h1] at hRr
  subst hRr
  have HC':=HO.out.calls (Fp.refl _ _) HP.out (by rw [h1];simp)
  rw [h1] at HC'
  have HC:=Lib.hid HC'
  clear h1 HC' hP
  go_enter Tryz.func141,Tryz.ntmps141
  go_wp2_with (fail)
  refine (HC.out).mono ?_
  rintro e w1 ⟨rfl,hF⟩
  exact ⟨rfl,rfl,hF⟩
 | ok a k=>
  rw [h1] at hRr
  have hRr':(commas E one f k).bd (fun l m=>.ok ([a] ++ l) m)=Rr:=hRr
  have HR:=Lib.hid hRr'
  have HC':=HO.out.calls (Fp.refl _ _) HP.out (by rw [h1];simp)
  rw [h1] at HC'
  have HC:=Lib.hid HC'
  clear h1 HC' hRr' hRr hP
  go_enter Tryz.func141,Tryz.ntmps141
  go_wp2_with (fail)
  refine (HC.out).mono ?_
  rintro e w1 ⟨v,rfl,hv,hP1,hF1⟩
  obtain rfl:=hv
  have hv1:IntsF (From w.heap.size) w1 [a] #[.int .i64 (a:Int)].toList:=rfl
  have hsz1:=hF1.size
  have hb1:Below w1.heap.size w1 (w1.alloc (.cells #[.int .i64 (a:Int)] 3)):=(Below.refl _ _).alloc (Nat.le_refl _) _
  have HL1:=Lib.hid (owns_lit (base:=w.heap.size) (Holds.new w1 3 #[.int .i64 (a:Int)]) hsz1 (by rfl) (by simp))
  have HP1:=Lib.hid (hP1.belowAll hb1)
  have HF1:=Lib.hid (hF1.bel hb1)
  have HE1:=Lib.hid ((IntsF.mono (Wide.new (base:=w.heap.size) (v:=.slice (some ⟨w1.heap.size,0,none⟩) 1 1) rfl (Nat.le_refl _)) [a] hv1).up (Keep.below hb1) [a])
  try clear hv
  clear hv1 hP1 hF1 hb1 hsz1
  go_wp2
  have hfew:=HP.out.few
  go_loopg [5] f (fun gk v wr=>∃ (acc:List (Nat)) (flat:List Value) (j:Nat),j ≤ 65536∧acc.length ≤ j + 1∧Hid ((commas E one gk j).bd (fun l m=>.ok (acc ++ l) m)=Rr)∧Hid (wr.ownsRow w.heap.size 3 1 v acc.length flat)∧Hid (IntsF (But w.heap.size v) wr acc flat)∧Hid (Par wr p vl E j)∧Hid (Fp p w wr))
  case atStart=>exact ⟨[a],_,k,Nat.le_trans HP1.out.le HP1.out.few,by simp,HR,HL1,HE1,HP1,HF1⟩
  case round=>
   clear HR HL1 HE1 HP1 HF1 HC HP
   obtain ⟨acc,flat,j,hj,hacc,HR,HL,HE,HP,HF⟩:=hrel
   obtain ⟨W2,rfl⟩:∃ W,W=wr:=⟨wr,rfl⟩
   cases gk with
   | zero=>exact absurd (HR.out.symm.trans commas_zero) HNE.out
   | succ gk=>
    have hb0:Below W2.heap.size W2 (W2.alloc (.cells #[.string ⟨#[44]⟩] 9)):=(Below.refl _ _).alloc (Nat.le_refl _) _
    have HPa:=Lib.hid (HP.out.belowAll hb0)
    have HCm:=Lib.hid (Holds.new W2 9 #[.string ⟨#[44]⟩])
    have HFa:=Lib.hid (HF.out.bel hb0)
    have HLa:=Lib.hid (owns_below HL.out hb0)
    have HEa:=Lib.hid (HE.out.up (Keep.below hb0) acc)
    clear hb0 HP HF HL HE
    cases hs:sees E j [[44]] with
    | false=>
     have HRj:=Lib.hid ((commas_no (g:=gk) (h:=fun l m=>R.ok (acc ++ l) m) hs).symm.trans HR.out)
     have HT:=Lib.hid (takes_no HPa.out [[44]] HCm.out (by simp) hs)
     clear hs
     go_wp2_with (fail)
     refine (HT.out).mono ?_
     rintro e w3 ⟨rfl,hb⟩
     have hPost:Out p vl E w (IntsE (From w.heap.size)) Rr (.returned u5) w3:=by
      rw [← HRj.out]
      refine ⟨_,rfl,⟨flat,?_,?_⟩,HPa.out.belowAll hb,HFa.out.bel hb⟩
      ·have:=RowL.of_owns (P:=From w.heap.size) (owns_below HLa.out hb) (fun k hk=>hk)
       rwa [List.append_nil]
      ·have:=(IntsF.mono Wide.of_but acc HEa.out).up (Keep.below hb) acc
       rwa [List.append_nil]
     have HPost:=Lib.hid hPost
     clear hb hPost HT
     go_wp2
     go_ret
     exact HPost.out
    | true=>
     have HRj:=Lib.hid ((commas_yes (g:=gk) (h:=fun l m=>R.ok (acc ++ l) m) hs).symm.trans HR.out)
     have HT:=Lib.hid (takes_yes HPa.out [[44]] HCm.out (by simp) hs)
     clear hs
     go_wp2_with (fail)
     refine (HT.out).mono ?_
     rintro e w3 ⟨rfl,hP3,hF3⟩
     have HP3:=Lib.hid hP3
     have HL3:=Lib.hid (owns_fp HLa.out hF3 hp1)
     have HE3:=Lib.hid (HEa.out.up (Keep.fp hF3 hp1) acc)
     have HF3:=Lib.hid (HFa.out.trans hF3)
     clear hP3 hF3 HT HPa HLa HEa HFa HCm
     cases h1:one (j + 1) with
     | out=>rw [h1] at HRj;exact absurd HRj.out.symm HNE.out
     | bad c a=>
      have HC':=HO.out.calls HF3.out HP3.out (by rw [h1];simp)
      rw [h1] at HC' HRj
      have HC:=Lib.hid HC'
      clear h1 HC'
      go_wp2_with (fail)
      refine (HC.out).mono ?_
      rintro e w4 ⟨rfl,hF⟩
      rw [← HRj.out]
      exact ⟨rfl,rfl,HF3.out.trans hF⟩
     | ok a2 k2=>
      have HC':=HO.out.calls HF3.out HP3.out (by rw [h1];simp)
      have hk2:=HA.out _ _ _ h1
      rw [h1] at HC' HRj
      have HRk:Hid ((commas E one gk k2).bd (fun l m=>.ok ((acc ++ [a2]) ++ l) m)=Rr):=by
       have:=HRj.out
       show _=_
       rw [← this]
       simp only [List.append_assoc,List.singleton_append]
       rfl
      have HC:=Lib.hid HC'
      clear h1 HC' HRj HR
      go_wp2_with (fail)
      refine (HC.out).mono ?_
      rintro e w4 ⟨v4,rfl,hv,hP4,hF4⟩
      obtain rfl:=hv
      have hv1:IntsF (From w3.heap.size) w4 [a2] #[.int .i64 (a2:Int)].toList:=rfl
      have HP4:=Lib.hid hP4
      have HL4:=Lib.hid (owns_fp HL3.out hF4 hp1)
      have hk65:=Nat.le_trans hP4.le hP4.few
      have hsz:=Nat.le_trans HF3.out.size hF4.size
      have HE4:=Lib.hid (IntsF.append (HE3.out.up (Keep.fp hF4 hp1) acc) (IntsF.mono (Wide.but2 (w:=w4) (wr:=w4) (base:=w.heap.size) HF3.out.size (owns_lt HL3.out)) [a2] hv1))
      have HF4:=Lib.hid (HF3.out.trans hF4)
      try clear hv
      clear hv1 hP4 hF4 HC HP3 HL3 HE3 HF3
      obtain ⟨i0,z0,hi0,hz0,hz1,hz2,hz3⟩:=info_of listInt_info
      have HLb:=Lib.hid (owns_below HL4.out ((Below.refl w4.heap.size w4).alloc (Nat.le_refl _) (.cells #[.int .i64 (a2:Int)] 3)))
      go_wp2_with (at_builtin;refine wpList_append_own_at _ rfl (.tmp 12) (.tmp 15) _ rfl w.heap.size 3 i0 z0 1 8 Tryz.underlying46 hi0 hz0 hz1 hz2 hz3 (by omega) _ acc.length flat rfl HLb.out ⟨w4.heap.size,0,none⟩ 1 1 #[.int .i64 (a2:Int)].toList rfl rfl ?c1 ?c2 ?c3 ?c4 ?c5 ?_)
      case c2=>simp [Value.oneCell']
      case c3=>unfold maxLen;omega
      case c4=>omega
      case c5=>have:=hsz;simp;omega
      intro v' w5 hown5 hgrow _ hat
      have hb4:Below w4.heap.size w4 (w4.alloc (.cells #[.int .i64 (a2:Int)] 3)):=(Below.refl _ _).alloc (Nat.le_refl _) _
      have hat':v'.ownBlock=u5.ownBlock∨v'.ownBlock=some (w4.alloc (.cells #[.int .i64 (a2:Int)] 3)).heap.size:=by simpa using hat
      have HP5:=Lib.hid ((HP4.out.belowAll hb4).grown hgrow (fun g e=>by have:=owns_ge HL4.out g e;omega))
      have HF5:=Lib.hid ((HF4.out.bel hb4).grown hgrow (fun g e=>owns_ge HL4.out g e))
      have HE5:=Lib.hid ((IntsF.mono (Wide.out (w':=w5) hat') (acc ++ [a2]) ((IntsF.mono Wide.in_ (acc ++ [a2]) (HE4.out.up (Keep.below hb4) (acc ++ [a2]))).up ((Keep.grown (base:=w.heap.size) hgrow).imp fun k hk=>hk.1) (acc ++ [a2]))))
      have HL5:Hid (w5.ownsRow w.heap.size 3 1 v' (acc ++ [a2]).length (flat ++ #[.int .i64 (a2:Int)].toList)):=by
       show World.ownsRow _ _ _ _ _ _ _
       rw [List.length_append]
       exact hown5
      clear hb4 hat hat' hgrow hown5 HLb HE4 HL4 HP4 HF4
      go_wp2
      go_roundg gk
      case measure=>omega
      case rel=>exact ⟨acc ++ [a2],_,k2,hk65,by rw [List.length_append,List.length_singleton];omega,HRk,HL5,HE5,HP5,HF5⟩
end Go.Proofs.YtpoghableadkcaaGreatDoor
end
section
/- The walk of list over arguments. -/
namespace Go.Proofs.YtpoghableadkcaaGreatDoor
open Go.RowKit
set_option linter.unusedVariables false
set_option linter.unusedSimpArgs false

theorem listArg_info:(Tryz.prog.info? 116).map (fun i=>(i.zero.map fun z=>z.cells.size,i.size,i.bytes))=some (some 11,11,176):=by kernel_rfl

set_option maxHeartbeats 2000000 in
set_option maxRecDepth 100000 in
theorem listArgFn {w:World} {p:Nat} {vl:Value} {E:Env} {i:Nat} (f:Nat) (one:Nat→R (Arg)) (g:Nat) (fs cs:Array Value) (hP:Par w p vl E i) (ho:OneOk p vl E ArgV g fs cs one) (hadv:∀ i a k,one i=.ok a k→i ≤ k) (hne:many E one f i ≠ .out):
  Calls Tryz.prog 173 #[.pointer (some ⟨p,0,none⟩),.func (.func g) fs cs] w (Out p vl E w (ArgsV (From w.heap.size)) (many E one f i)):=by
 have eg:=ho.enters
 have HO:=Lib.hid ho
 have hp1:=hP.lt
 have HA:=Lib.hid hadv
 have HP:=Lib.hid hP
 obtain ⟨Rr,hRr⟩:∃ Rr,many E one f i=Rr:=⟨_,rfl⟩
 rw [hRr] at hne ⊢
 unfold many at hRr
 have HNE:=Lib.hid hne
 clear ho hadv hne
 cases h1:one i with
 | out=>rw [h1] at hRr;exact absurd hRr.symm HNE.out
 | bad c a=>
  rw [h1] at hRr
  subst hRr
  have HC':=HO.out.calls HP.out (by rw [h1];simp)
  rw [h1] at HC'
  have HC:=Lib.hid HC'
  clear h1 HC' hP
  go_enter Tryz.func173,Tryz.ntmps173
  go_wp2_with (fail)
  refine (HC.out).mono ?_
  rintro e w1 ⟨rfl,hF⟩
  exact ⟨rfl,rfl,hF⟩
 | ok a k=>
  rw [h1] at hRr
  have hRr':(commas E one f k).bd (fun l m=>.ok ([a] ++ l) m)=Rr:=hRr
  have HR:=Lib.hid hRr'
  have HC':=HO.out.calls HP.out (by rw [h1];simp)
  rw [h1] at HC'
  have HC:=Lib.hid HC'
  clear h1 HC' hRr' hRr hP
  go_enter Tryz.func173,Tryz.ntmps173
  go_wp2_with (fail)
  refine (HC.out).mono ?_
  rintro e w1 ⟨v,rfl,hv,hP1,hF1⟩
  obtain ⟨vn,vi,vh,vk,va,rfl,hq⟩:=ArgV.open_ hv;clear hv;have hv:=hq;clear hq;obtain ⟨z1,y1,x1,z2,y2,x2,z3,y3,x3,z4,y4,x4,z5,y5,x5,rfl,rfl,rfl,rfl,rfl⟩:=hv.forms
  have hv1:ArgsF (From w.heap.size) w1 [a] #[.bool a.m,.bool a.any,.int .i64 (a.e.kind:Int),.int .i64 a.e.n,.string ⟨a.e.name.toArray⟩,.string ⟨a.e.label.toArray⟩,.slice z1 y1 x1,.slice z2 y2 x2,.slice z3 y3 x3,.slice z4 y4 x4,.slice z5 y5 x5].toList:=(by rw [ArgsF];exact ⟨_,[],by rfl,ArgF.mk hv,by rw [ArgsF]⟩)
  have hsz1:=hF1.size
  have hb1:Below w1.heap.size w1 (w1.alloc (.cells #[.bool a.m,.bool a.any,.int .i64 (a.e.kind:Int),.int .i64 a.e.n,.string ⟨a.e.name.toArray⟩,.string ⟨a.e.label.toArray⟩,.slice z1 y1 x1,.slice z2 y2 x2,.slice z3 y3 x3,.slice z4 y4 x4,.slice z5 y5 x5] 116)):=(Below.refl _ _).alloc (Nat.le_refl _) _
  have HL1:=Lib.hid (owns_lit (base:=w.heap.size) (Holds.new w1 116 #[.bool a.m,.bool a.any,.int .i64 (a.e.kind:Int),.int .i64 a.e.n,.string ⟨a.e.name.toArray⟩,.string ⟨a.e.label.toArray⟩,.slice z1 y1 x1,.slice z2 y2 x2,.slice z3 y3 x3,.slice z4 y4 x4,.slice z5 y5 x5]) hsz1 (by rfl) (by simp))
  have HP1:=Lib.hid (hP1.belowAll hb1)
  have HF1:=Lib.hid (hF1.bel hb1)
  have HE1:=Lib.hid ((ArgsF.mono (Wide.new (base:=w.heap.size) (v:=.slice (some ⟨w1.heap.size,0,none⟩) 1 1) rfl (Nat.le_refl _)) [a] hv1).up (Keep.below hb1) [a])
  try clear hv
  clear hv1 hP1 hF1 hb1 hsz1
  go_wp2
  have hfew:=HP.out.few
  go_loopg [5] f (fun gk v wr=>∃ (acc:List (Arg)) (flat:List Value) (j:Nat),j ≤ 65536∧acc.length ≤ j + 1∧Hid ((commas E one gk j).bd (fun l m=>.ok (acc ++ l) m)=Rr)∧Hid (wr.ownsRow w.heap.size 116 11 v acc.length flat)∧Hid (ArgsF (But w.heap.size v) wr acc flat)∧Hid (Par wr p vl E j)∧Hid (Fp p w wr))
  case atStart=>exact ⟨[a],_,k,Nat.le_trans HP1.out.le HP1.out.few,by simp,HR,HL1,HE1,HP1,HF1⟩
  case round=>
   clear HR HL1 HE1 HP1 HF1 HC HP
   obtain ⟨acc,flat,j,hj,hacc,HR,HL,HE,HP,HF⟩:=hrel
   obtain ⟨W2,rfl⟩:∃ W,W=wr:=⟨wr,rfl⟩
   cases gk with
   | zero=>exact absurd (HR.out.symm.trans commas_zero) HNE.out
   | succ gk=>
    have hb0:Below W2.heap.size W2 (W2.alloc (.cells #[.string ⟨#[44]⟩] 9)):=(Below.refl _ _).alloc (Nat.le_refl _) _
    have HPa:=Lib.hid (HP.out.belowAll hb0)
    have HCm:=Lib.hid (Holds.new W2 9 #[.string ⟨#[44]⟩])
    have HFa:=Lib.hid (HF.out.bel hb0)
    have HLa:=Lib.hid (owns_below HL.out hb0)
    have HEa:=Lib.hid (HE.out.up (Keep.below hb0) acc)
    clear hb0 HP HF HL HE
    cases hs:sees E j [[44]] with
    | false=>
     have HRj:=Lib.hid ((commas_no (g:=gk) (h:=fun l m=>R.ok (acc ++ l) m) hs).symm.trans HR.out)
     have HT:=Lib.hid (takes_no HPa.out [[44]] HCm.out (by simp) hs)
     clear hs
     go_wp2_with (fail)
     refine (HT.out).mono ?_
     rintro e w3 ⟨rfl,hb⟩
     have hPost:Out p vl E w (ArgsV (From w.heap.size)) Rr (.returned u5) w3:=by
      rw [← HRj.out]
      refine ⟨_,rfl,⟨flat,?_,?_⟩,HPa.out.belowAll hb,HFa.out.bel hb⟩
      ·have:=RowL.of_owns (P:=From w.heap.size) (owns_below HLa.out hb) (fun k hk=>hk)
       rwa [List.append_nil]
      ·have:=(ArgsF.mono Wide.of_but acc HEa.out).up (Keep.below hb) acc
       rwa [List.append_nil]
     have HPost:=Lib.hid hPost
     clear hb hPost HT
     go_wp2
     go_ret
     exact HPost.out
    | true=>
     have HRj:=Lib.hid ((commas_yes (g:=gk) (h:=fun l m=>R.ok (acc ++ l) m) hs).symm.trans HR.out)
     have HT:=Lib.hid (takes_yes HPa.out [[44]] HCm.out (by simp) hs)
     clear hs
     go_wp2_with (fail)
     refine (HT.out).mono ?_
     rintro e w3 ⟨rfl,hP3,hF3⟩
     have HP3:=Lib.hid hP3
     have HL3:=Lib.hid (owns_fp HLa.out hF3 hp1)
     have HE3:=Lib.hid (HEa.out.up (Keep.fp hF3 hp1) acc)
     have HF3:=Lib.hid (HFa.out.trans hF3)
     clear hP3 hF3 HT HPa HLa HEa HFa HCm
     cases h1:one (j + 1) with
     | out=>rw [h1] at HRj;exact absurd HRj.out.symm HNE.out
     | bad c a=>
      have HC':=HO.out.calls HP3.out (by rw [h1];simp)
      rw [h1] at HC' HRj
      have HC:=Lib.hid HC'
      clear h1 HC'
      go_wp2_with (fail)
      refine (HC.out).mono ?_
      rintro e w4 ⟨rfl,hF⟩
      rw [← HRj.out]
      exact ⟨rfl,rfl,HF3.out.trans hF⟩
     | ok a2 k2=>
      have HC':=HO.out.calls HP3.out (by rw [h1];simp)
      have hk2:=HA.out _ _ _ h1
      rw [h1] at HC' HRj
      have HRk:Hid ((commas E one gk k2).bd (fun l m=>.ok ((acc ++ [a2]) ++ l) m)=Rr):=by
       have:=HRj.out
       show _=_
       rw [← this]
       simp only [List.append_assoc,List.singleton_append]
       rfl
      have HC:=Lib.hid HC'
      clear h1 HC' HRj HR
      go_wp2_with (fail)
      refine (HC.out).mono ?_
      rintro e w4 ⟨v4,rfl,hv,hP4,hF4⟩
      obtain ⟨vn,vi,vh,vk,va,rfl,hq⟩:=ArgV.open_ hv;clear hv;have hv:=hq;clear hq;obtain ⟨z1,y1,x1,z2,y2,x2,z3,y3,x3,z4,y4,x4,z5,y5,x5,rfl,rfl,rfl,rfl,rfl⟩:=hv.forms
      have hv1:ArgsF (From w3.heap.size) w4 [a2] #[.bool a2.m,.bool a2.any,.int .i64 (a2.e.kind:Int),.int .i64 a2.e.n,.string ⟨a2.e.name.toArray⟩,.string ⟨a2.e.label.toArray⟩,.slice z1 y1 x1,.slice z2 y2 x2,.slice z3 y3 x3,.slice z4 y4 x4,.slice z5 y5 x5].toList:=(by rw [ArgsF];exact ⟨_,[],by rfl,ArgF.mk hv,by rw [ArgsF]⟩)
      have HP4:=Lib.hid hP4
      have HL4:=Lib.hid (owns_fp HL3.out hF4 hp1)
      have hk65:=Nat.le_trans hP4.le hP4.few
      have hsz:=Nat.le_trans HF3.out.size hF4.size
      have HE4:=Lib.hid (ArgsF.append (HE3.out.up (Keep.fp hF4 hp1) acc) (ArgsF.mono (Wide.but2 (w:=w4) (wr:=w4) (base:=w.heap.size) HF3.out.size (owns_lt HL3.out)) [a2] hv1))
      have HF4:=Lib.hid (HF3.out.trans hF4)
      try clear hv
      clear hv1 hP4 hF4 HC HP3 HL3 HE3 HF3
      obtain ⟨i0,z0,hi0,hz0,hz1,hz2,hz3⟩:=info_of listArg_info
      have HLb:=Lib.hid (owns_below HL4.out ((Below.refl w4.heap.size w4).alloc (Nat.le_refl _) (.cells #[.bool a2.m,.bool a2.any,.int .i64 (a2.e.kind:Int),.int .i64 a2.e.n,.string ⟨a2.e.name.toArray⟩,.string ⟨a2.e.label.toArray⟩,.slice z1 y1 x1,.slice z2 y2 x2,.slice z3 y3 x3,.slice z4 y4 x4,.slice z5 y5 x5] 116)))
      go_wp2_with (at_builtin;refine wpList_append_own_at _ rfl (.tmp 12) (.tmp 15) _ rfl w.heap.size 116 i0 z0 11 176 Tryz.underlying39 hi0 hz0 hz1 hz2 hz3 (by omega) _ acc.length flat rfl HLb.out ⟨w4.heap.size,0,none⟩ 1 1 #[.bool a2.m,.bool a2.any,.int .i64 (a2.e.kind:Int),.int .i64 a2.e.n,.string ⟨a2.e.name.toArray⟩,.string ⟨a2.e.label.toArray⟩,.slice z1 y1 x1,.slice z2 y2 x2,.slice z3 y3 x3,.slice z4 y4 x4,.slice z5 y5 x5].toList rfl rfl ?c1 ?c2 ?c3 ?c4 ?c5 ?_)
      case c2=>simp [Value.oneCell']
      case c3=>unfold maxLen;omega
      case c4=>omega
      case c5=>have:=hsz;simp;omega
      intro v' w5 hown5 hgrow _ hat
      have hb4:Below w4.heap.size w4 (w4.alloc (.cells #[.bool a2.m,.bool a2.any,.int .i64 (a2.e.kind:Int),.int .i64 a2.e.n,.string ⟨a2.e.name.toArray⟩,.string ⟨a2.e.label.toArray⟩,.slice z1 y1 x1,.slice z2 y2 x2,.slice z3 y3 x3,.slice z4 y4 x4,.slice z5 y5 x5] 116)):=(Below.refl _ _).alloc (Nat.le_refl _) _
      have hat':v'.ownBlock=u5.ownBlock∨v'.ownBlock=some (w4.alloc (.cells #[.bool a2.m,.bool a2.any,.int .i64 (a2.e.kind:Int),.int .i64 a2.e.n,.string ⟨a2.e.name.toArray⟩,.string ⟨a2.e.label.toArray⟩,.slice z1 y1 x1,.slice z2 y2 x2,.slice z3 y3 x3,.slice z4 y4 x4,.slice z5 y5 x5] 116)).heap.size:=by simpa using hat
      have HP5:=Lib.hid ((HP4.out.belowAll hb4).grown hgrow (fun g e=>by have:=owns_ge HL4.out g e;omega))
      have HF5:=Lib.hid ((HF4.out.bel hb4).grown hgrow (fun g e=>owns_ge HL4.out g e))
      have HE5:=Lib.hid ((ArgsF.mono (Wide.out (w':=w5) hat') (acc ++ [a2]) ((ArgsF.mono Wide.in_ (acc ++ [a2]) (HE4.out.up (Keep.below hb4) (acc ++ [a2]))).up ((Keep.grown (base:=w.heap.size) hgrow).imp fun k hk=>hk.1) (acc ++ [a2]))))
      have HL5:Hid (w5.ownsRow w.heap.size 116 11 v' (acc ++ [a2]).length (flat ++ #[.bool a2.m,.bool a2.any,.int .i64 (a2.e.kind:Int),.int .i64 a2.e.n,.string ⟨a2.e.name.toArray⟩,.string ⟨a2.e.label.toArray⟩,.slice z1 y1 x1,.slice z2 y2 x2,.slice z3 y3 x3,.slice z4 y4 x4,.slice z5 y5 x5].toList)):=by
       show World.ownsRow _ _ _ _ _ _ _
       rw [List.length_append]
       exact hown5
      clear hb4 hat hat' hgrow hown5 HLb HE4 HL4 HP4 HF4
      go_wp2
      go_roundg gk
      case measure=>omega
      case rel=>exact ⟨acc ++ [a2],_,k2,hk65,by rw [List.length_append,List.length_singleton];omega,HRk,HL5,HE5,HP5,HF5⟩
end Go.Proofs.YtpoghableadkcaaGreatDoor
end
