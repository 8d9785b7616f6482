/- Stm, Opt, Top2, Fu2, joined. -/
import Derived.Test.YtpoghableadkcaaGreatDoorM13
import Derived.Deep.LoopGhost
section
/- The walks of statements: what all share; body (printed by mkstm.py). -/
namespace Go.Proofs.YtpoghableadkcaaGreatDoor
open Go.RowKit
set_option linter.unusedVariables false
set_option linter.unusedSimpArgs false

/-- The contracts of what reads statements,at one fuel. -/
structure StmOk (E:Env) (f:Nat):Prop where
 stmt:∀ {w:World} {p i:Nat} {vl:Value},Par w p vl E i→stmt E f i ≠ .out→Calls Tryz.prog 159 #[.pointer (some ⟨p,0,none⟩)] w (Out p vl E w (StmV (From w.heap.size)) (stmt E f i))
 body:∀ {w:World} {p i:Nat} {vl:Value},Par w p vl E i→body E f i ≠ .out→Calls Tryz.prog 54 #[.pointer (some ⟨p,0,none⟩)] w (Out p vl E w (StmsV (From w.heap.size)) (body E f i))
 sequence:∀ {w:World} {p i:Nat} {vl:Value},Par w p vl E i→sequence E f i ≠ .out→Calls Tryz.prog 104 #[.pointer (some ⟨p,0,none⟩)] w (Out p vl E w (StmsV (From w.heap.size)) (sequence E f i))
 step:∀ {w:World} {p i:Nat} {vl:Value},Par w p vl E i→step E f i ≠ .out→Calls Tryz.prog 139 #[.pointer (some ⟨p,0,none⟩)] w (Out p vl E w (StmV (From w.heap.size)) (step E f i))
 options:∀ {w:World} {p i:Nat} {vl:Value} (stop:Bs),Par w p vl E i→options E f stop i ≠ .out→Calls Tryz.prog 171 #[.pointer (some ⟨p,0,none⟩),.string ⟨stop.toArray⟩] w (Out p vl E w (OptsV (From w.heap.size)) (options E f stop i))
theorem StmsV.form {P:Nat→Prop} {w:World} {v:Value} {l:List Stm} (h:StmsV P w v l):∃ a cap,v=.slice a l.length cap:=by
 obtain ⟨f,h1,_⟩:=h
 obtain ⟨a,c,h2,_⟩:=h1.form
 exact ⟨a,c,h2⟩
theorem OptsV.form {P:Nat→Prop} {w:World} {v:Value} {l:List (List Stm)} (h:OptsV P w v l):∃ a cap,v=.slice a l.length cap:=by
 obtain ⟨f,h1,_⟩:=h
 obtain ⟨a,c,h2,_⟩:=h1.form
 exact ⟨a,c,h2⟩

set_option maxHeartbeats 4000000 in
set_option maxRecDepth 100000 in
theorem bodyFn {E:Env} {f:Nat} (ih:StmOk E f) {w:World} {p i:Nat} {vl:Value} (hP:Par w p vl E i) (hne:body E (f + 1) i ≠ .out):
  Calls Tryz.prog 54 #[.pointer (some ⟨p,0,none⟩)] w (Out p vl E w (StmsV (From w.heap.size)) (body E (f + 1) i)):=by
 have hp1:=hP.lt
 obtain ⟨Rr,hRr⟩:∃ Rr,body E (f + 1) i=Rr:=⟨_,rfl⟩
 rw [hRr] at hne ⊢
 have HNE:=Lib.hid hne
 rw [body] at hRr
 have HPq:=Lib.hid hP
 have HFq:=Lib.hid (Fp.refl p w)
 clear hP hne
 go_enter Tryz.func54,Tryz.ntmps54
 have HC':=needFn HPq.out [123]
 have HCx:=Lib.hid HC'
 clear HC'
 have HQ:=Lib.hid hRr
 clear hRr
 go_wp2_with (fail)
 have hRr:=HQ.out
 clear HQ
 have HC':=HCx.out
 clear HCx
 cases h1:need E [123] i with
 | out=>exact absurd h1 need_ne
 | bad c a=>
  rw [h1] at HC' hRr
  refine HC'.mono ?_
  rintro e wz ⟨rfl,hF⟩
  rw [← (show _=_ from hRr)]
  exact ⟨rfl,rfl,HFq.out.trans hF⟩
 | ok u j2=>
  rw [h1] at HC' hRr
  have HC:=Lib.hid HC'
  clear h1 HC' 
  try simp only [bd_ok] at hRr
  refine (HC.out).mono ?_
  rintro e w11 ⟨vw11,rfl,hv,hPq,hFq⟩
  have HP11:=Lib.hid hPq
  have HF11:=Lib.hid (HFq.out.trans hFq)
  clear HPq HFq
  clear hPq hFq HC
  obtain rfl:=hv
  have hszF:w.heap.size ≤ w11.heap.size:=HF11.out.size
  have hszp:p < w11.heap.size:=HP11.out.lt
  have HC':=ih.sequence HP11.out (fun h=>by rw [h] at hRr;exact HNE.out hRr.symm)
  have HCx:=Lib.hid HC'
  clear HC'
  have HQ:=Lib.hid hRr
  clear hRr
  go_wp2_with (fail)
  have hRr:=HQ.out
  clear HQ
  have HC':=HCx.out
  clear HCx
  cases h1:sequence E f j2 with
  | out=>exact absurd h1 (fun h=>by rw [h] at hRr;exact HNE.out hRr.symm)
  | bad c a=>
   rw [h1] at HC' hRr
   refine HC'.mono ?_
   rintro e wz ⟨rfl,hF⟩
   rw [← (show _=_ from hRr)]
   exact ⟨rfl,rfl,HF11.out.trans hF⟩
  | ok l j3=>
   rw [h1] at HC' hRr
   have HC:=Lib.hid HC'
   clear h1 HC' 
   try simp only [bd_ok] at hRr
   refine (HC.out).mono ?_
   rintro e w12 ⟨vw12,rfl,hv,hPq,hFq⟩
   have HP12:=Lib.hid hPq
   have HF12:=Lib.hid (HF11.out.trans hFq)
   clear HP11 HF11
   clear hPq hFq HC
   obtain ⟨fa,fc,rfl⟩:=hv.form
   have HVl12:=Lib.hid hv
   clear hv
   have HC':=needFn HP12.out [125]
   have HCx:=Lib.hid HC'
   clear HC'
   have HQ:=Lib.hid hRr
   clear hRr
   go_wp2_with (fail)
   have hRr:=HQ.out
   clear HQ
   have HC':=HCx.out
   clear HCx
   cases h1:need E [125] j3 with
   | out=>exact absurd h1 need_ne
   | bad c a=>
    rw [h1] at HC' hRr
    refine HC'.mono ?_
    rintro e wz ⟨rfl,hF⟩
    rw [← (show _=_ from hRr)]
    exact ⟨rfl,rfl,HF12.out.trans hF⟩
   | ok u j4=>
    rw [h1] at HC' hRr
    have HC:=Lib.hid HC'
    clear h1 HC' 
    try simp only [bd_ok] at hRr
    refine (HC.out).mono ?_
    rintro e w13 ⟨vw13,rfl,hv,hPq,hFq⟩
    have HP13:=Lib.hid hPq
    have HF13:=Lib.hid (HF12.out.trans hFq)
    have HVl13:=Lib.hid (HVl12.out.up (Keep.of_fp hFq (by show ¬ _;omega)))
    clear HP12 HF12 HVl12
    clear hPq hFq HC
    obtain rfl:=hv
    have HZ:=Lib.hid hRr
    clear hRr
    go_wp2
    go_ret
    rw [← HZ.out]
    exact ⟨_,rfl,HVl13.out.mono (Wide.from hszF),HP13.out,HF13.out⟩
end Go.Proofs.YtpoghableadkcaaGreatDoor
end
section
/- The walk of options (printed by mkopt.py). -/
namespace Go.Proofs.YtpoghableadkcaaGreatDoor
open Go.RowKit
set_option linter.unusedVariables false
set_option linter.unusedSimpArgs false

theorem listOpt_info:(Tryz.prog.info? 52).map (fun i=>(i.zero.map fun z=>z.cells.size,i.size,i.bytes))=some (some 1,1,24):=by kernel_rfl
/-- What follows a row of options. -/
def optTl (E:Env) (stop:Bs) (g:Nat) (acc:List (List Stm)) (k:Nat):R (List (List Stm)):=
 if sees E k [stop] then .ok acc (k + 1) else (options E g stop k).bd fun r m=>.ok (acc ++ r) m
theorem optTl_succ {E:Env} {g k:Nat} {stop:Bs} {acc:List (List Stm)} (h1:sees E k [stop]=false):optTl E stop (g + 1) acc k=(need E [58,58] k).bd fun _ j=>(sequence E g j).bd fun l k2=>optTl E stop g (acc ++ [l]) k2:=by
 unfold optTl
 rw [if_neg (by rw [h1];decide),options,bd_bd]
 congr 1
 funext _ j
 rw [bd_bd]
 congr 1
 funext l k2
 split
 ·rfl
 ·rw [bd_bd];simp only [bd_ok,List.append_assoc,List.singleton_append]
theorem OptsF.sing {P:Nat→Prop} {w:World} {l:List Stm} {a:Option Addr} {n c:Nat} {f:List Value} (h:RowL P w 28 (.slice a n c) l.length f) (hf:StmsF P w l f):OptsF P w [l] [.slice a n c]:=by
 rw [OptsF]
 exact ⟨_,[],rfl,⟨f,h,hf⟩,by rw [OptsF]⟩

set_option maxHeartbeats 4000000 in
set_option maxRecDepth 100000 in
theorem optionsFn {E:Env} {f:Nat} (ih:∀ g,g ≤ f→StmOk E g) (hadv:∀ g i a k,g ≤ f→sequence E g i=.ok a k→i < k) (stop:Bs) {w:World} {p i:Nat} {vl:Value} (hP:Par w p vl E i) (hne:options E (f + 1) stop i ≠ .out):
  Calls Tryz.prog 171 #[.pointer (some ⟨p,0,none⟩),.string ⟨stop.toArray⟩] w (Out p vl E w (OptsV (From w.heap.size)) (options E (f + 1) stop i)):=by
 have hp1:=hP.lt
 have HIH:=Lib.hid ih
 have HADV:=Lib.hid hadv
 obtain ⟨Rr,hRr⟩:∃ Rr,options E (f + 1) stop i=Rr:=⟨_,rfl⟩
 rw [hRr] at hne ⊢
 have HNE:=Lib.hid hne
 rw [options] at hRr
 clear hne ih hadv
 have HPq:=Lib.hid hP
 have HFq:=Lib.hid (Fp.refl p w)
 clear hP
 go_enter Tryz.func171,Tryz.ntmps171
 have HC':=needFn HPq.out [58,58]
 have HCx:=Lib.hid HC'
 clear HC'
 have HQ:=Lib.hid hRr
 clear hRr
 go_wp2_with (fail)
 have hRr:=HQ.out
 clear HQ
 have HC':=HCx.out
 clear HCx
 cases h1:need E [58,58] i with
 | out=>exact absurd h1 need_ne
 | bad c a=>
  rw [h1] at HC' hRr
  refine HC'.mono ?_
  rintro e wz ⟨rfl,hF⟩
  rw [← (show _=_ from hRr)]
  exact ⟨rfl,rfl,HFq.out.trans hF⟩
 | ok u j2=>
  rw [h1] at HC' hRr
  have HC:=Lib.hid HC'
  clear h1 HC' 
  try simp only [bd_ok] at hRr
  refine (HC.out).mono ?_
  rintro e w11 ⟨vw11,rfl,hv,hPq,hFq⟩
  have HP11:=Lib.hid hPq
  have HF11:=Lib.hid (HFq.out.trans hFq)
  clear HPq HFq
  clear hPq hFq HC
  obtain rfl:=hv
  have hszF:w.heap.size ≤ w11.heap.size:=HF11.out.size
  have hszp:p < w11.heap.size:=HP11.out.lt
  have HC':=(HIH.out f (Nat.le_refl _)).sequence HP11.out (fun h=>by rw [h] at hRr;exact HNE.out hRr.symm)
  have HCx:=Lib.hid HC'
  clear HC'
  have HQ:=Lib.hid hRr
  clear hRr
  go_wp2_with (fail)
  have hRr:=HQ.out
  clear HQ
  have HC':=HCx.out
  clear HCx
  cases h1:sequence E f j2 with
  | out=>exact absurd h1 (fun h=>by rw [h] at hRr;exact HNE.out hRr.symm)
  | bad c a=>
   rw [h1] at HC' hRr
   refine HC'.mono ?_
   rintro e wz ⟨rfl,hF⟩
   rw [← (show _=_ from hRr)]
   exact ⟨rfl,rfl,HF11.out.trans hF⟩
  | ok a k=>
   have HK0:=Lib.hid (HADV.out f _ _ _ (Nat.le_refl _) h1)
   rw [h1] at HC' hRr
   have HC:=Lib.hid HC'
   clear h1 HC' 
   try simp only [bd_ok] at hRr
   refine (HC.out).mono ?_
   rintro e w12 ⟨vw12,rfl,hv,hPq,hFq⟩
   have HP12:=Lib.hid hPq
   have HF12:=Lib.hid (HF11.out.trans hFq)
   clear HP11 HF11
   clear hPq hFq HC
   obtain ⟨ff,hr,hf⟩:=hv
   obtain ⟨da,dc,rfl,_⟩:=hr.form
   have hv1:OptsF (From w11.heap.size) w12 [a] #[.slice da a.length dc].toList:=OptsF.sing hr hf
   have hsz1:w.heap.size ≤ w12.heap.size:=HF12.out.size
   have hb1:Below w12.heap.size w12 (w12.alloc (.cells #[.slice da a.length dc] 52)):=(Below.refl _ _).alloc (Nat.le_refl _) _
   have HL1:=Lib.hid (owns_lit (base:=w.heap.size) (Holds.new w12 52 #[.slice da a.length dc]) hsz1 (by rfl) (by simp))
   have HP1:=Lib.hid (HP12.out.belowAll hb1)
   have HF1:=Lib.hid (HF12.out.bel hb1)
   have HE1:=Lib.hid (OptsF.up (Keep.below hb1) [a] (OptsF.mono (Wide.new (base:=w.heap.size) (v:=.slice (some ⟨w12.heap.size,0,none⟩) 1 1) rfl (Nat.le_refl _)) [a] (OptsF.mono (Wide.from hszF) [a] hv1)))
   have hR1:optTl E stop f [a] k=Rr:=hRr
   have HR:=Lib.hid hR1
   have hk65:=Nat.le_trans HP1.out.le HP1.out.few
   clear hr hf hv1 hb1 hsz1 hRr hR1 HP12 HF12
   go_wp2
   go_loopg [5] f (fun gk v wr=>∃ (acc:List (List Stm)) (flat:List Value) (j:Nat),gk ≤ f∧j ≤ 65536∧acc.length ≤ j + 1∧Hid (optTl E stop gk acc j=Rr)∧Hid (wr.ownsRow w.heap.size 52 1 v acc.length flat)∧Hid (OptsF (But w.heap.size v) wr acc flat)∧Hid (Par wr p vl E j)∧Hid (Fp p w wr))
   case atStart=>exact ⟨[a],_,k,Nat.le_refl _,hk65,by simp,HR,HL1,HE1,HP1,HF1⟩
   case round=>
    clear HR HL1 HE1 HP1 HF1
    obtain ⟨acc,flat,j,hgf,hj,hacc,HR,HL,HE,HP,HF⟩:=hrel
    obtain ⟨va,vc,hva,_⟩:=owns_form HL.out
    subst hva
    have hb0:Below wr.heap.size wr (wr.alloc (.cells #[.string ⟨stop.toArray⟩] 9)):=(Below.refl _ _).alloc (Nat.le_refl _) _
    have HPa:=Lib.hid (HP.out.belowAll hb0)
    have HCm:=Lib.hid (Holds.new wr 9 #[.string ⟨stop.toArray⟩])
    have HFa:=Lib.hid (HF.out.bel hb0)
    have HLa:=Lib.hid (owns_below HL.out hb0)
    have HEa:=Lib.hid (OptsF.up (Keep.below hb0) acc HE.out)
    clear hb0 HP HF HL HE
    cases hs:sees E j [stop] with
    | true=>
     have hRj:R.ok acc (j + 1)=Rr:=by
      rw [← HR.out]
      unfold optTl
      rw [if_pos hs]
     have HRj:=Lib.hid hRj
     have HT:=Lib.hid (takes_yes HPa.out [stop] HCm.out (by simp) hs)
     clear hRj hs
     go_wp2_with (fail)
     refine (HT.out).mono ?_
     rintro e w4 ⟨rfl,hP4,hF4⟩
     have hPost:Out p vl E w (OptsV (From w.heap.size)) Rr (.returned (.slice va acc.length vc)) w4:=by
      rw [← HRj.out]
      exact ⟨_,rfl,⟨flat,RowL.of_owns (owns_fp HLa.out hF4 hp1) (fun k hk=>hk),OptsF.mono Wide.of_but acc (OptsF.up (Keep.fp hF4 hp1) acc HEa.out)⟩,hP4,HFa.out.trans hF4⟩
     have HPost:=Lib.hid hPost
     clear hP4 hF4 hPost HT
     go_wp2
     go_ret
     exact HPost.out
    | false=>
     have HT:=Lib.hid (takes_no HPa.out [stop] HCm.out (by simp) hs)
     cases gk with
     | zero=>
      have h:=HR.out
      unfold optTl at h
      rw [if_neg (by rw [hs];decide),options] at h
      exact absurd h.symm HNE.out
     | succ gk=>
      have hRj:=HR.out
      rw [optTl_succ hs] at hRj
      have HRj:=Lib.hid hRj
      clear hRj hs HR
      go_wp2_with (fail)
      refine (HT.out).mono ?_
      rintro e w4 ⟨rfl,hb⟩
      have HP4:=Lib.hid (HPa.out.belowAll hb)
      have HL4:=Lib.hid (owns_below HLa.out hb)
      have HE4:=Lib.hid (OptsF.up (Keep.below hb) acc HEa.out)
      have HF4:=Lib.hid (HFa.out.bel hb)
      clear hb HT HPa HLa HEa HFa HCm
      have HC':=needFn HP4.out [58,58]
      have hne1:need E [58,58] j ≠ .out:=need_ne
      cases h1:need E [58,58] j with
      | out=>exact absurd h1 hne1
      | bad c a=>
       have hRq:=HRj.out
       rw [h1] at HC' hRq
       have HC:=Lib.hid HC'
       have HRq:=Lib.hid hRq
       clear h1 HC' hRq hne1
       go_wp2_with (fail)
       refine (HC.out).mono ?_
       rintro e wz ⟨rfl,hF⟩
       rw [← (show _=_ from HRq.out)]
       exact ⟨rfl,rfl,HF4.out.trans hF⟩
      | ok u j5=>
       have hRq:=HRj.out
       have hj5:=need_pos h1
       rw [h1] at HC' hRq
       have HC:=Lib.hid HC'
       have HRq:=Lib.hid hRq
       clear h1 HC' hRq hne1 HRj
       go_wp2_with (fail)
       refine (HC.out).mono ?_
       rintro e w5 ⟨v5,rfl,hv5,hP5,hF5⟩
       obtain rfl:=hv5
       have HP5:=Lib.hid hP5
       have HL5:=Lib.hid (owns_fp HL4.out hF5 hp1)
       have HE5:=Lib.hid (OptsF.up (Keep.fp hF5 hp1) acc HE4.out)
       have HF5:=Lib.hid (HF4.out.trans hF5)
       clear hP5 hF5 HC HP4 HL4 HE4 HF4
       have hne2:sequence E gk j5 ≠ .out:=fun h=>by have h2:=HRq.out;simp only [bd_ok] at h2;rw [h] at h2;exact HNE.out h2.symm
       have HC':=(HIH.out gk (by omega)).sequence HP5.out hne2
       cases h1:sequence E gk j5 with
       | out=>exact absurd h1 hne2
       | bad c a=>
        have hRz:=HRq.out
        simp only [bd_ok] at hRz
        rw [h1] at HC' hRz
        have HC:=Lib.hid HC'
        have HRz:=Lib.hid hRz
        clear h1 HC' hRz hne2
        go_wp2_with (fail)
        refine (HC.out).mono ?_
        rintro e wz ⟨rfl,hF⟩
        rw [← (show _=_ from HRz.out)]
        exact ⟨rfl,rfl,HF5.out.trans hF⟩
       | ok a2 k2=>
        have hRz:=HRq.out
        simp only [bd_ok] at hRz
        have hk2:=HADV.out gk _ _ _ (by omega) h1
        rw [h1] at HC' hRz
        have HC:=Lib.hid HC'
        have HRk:Hid (optTl E stop gk (acc ++ [a2]) k2=Rr):=hRz
        clear h1 HC' hRz hne2 HRq
        go_wp2_with (fail)
        refine (HC.out).mono ?_
        rintro e w6 ⟨v6,rfl,hv,hP6,hF6⟩
        obtain ⟨ff,hr,hf⟩:=hv
        obtain ⟨da,dc,rfl,_⟩:=hr.form
        have hv1:OptsF (From w5.heap.size) w6 [a2] #[.slice da a2.length dc].toList:=OptsF.sing hr hf
        have HP6:=Lib.hid hP6
        have HL6:=Lib.hid (owns_fp HL5.out hF6 hp1)
        have hk65:=Nat.le_trans hP6.le hP6.few
        have hsz:=Nat.le_trans HF5.out.size hF6.size
        have HE6:=Lib.hid (OptsF.append (OptsF.up (Keep.fp hF6 hp1) acc HE5.out) (OptsF.mono (Wide.but2 (w:=w6) (wr:=w6) (base:=w.heap.size) HF5.out.size (owns_lt HL5.out)) [a2] hv1))
        have HF6:=Lib.hid (HF5.out.trans hF6)
        clear hr hf hv1 hP6 hF6 HC HP5 HL5 HE5 HF5
        obtain ⟨i0,z0,hi0,hz0,hz1,hz2,hz3⟩:=info_of listOpt_info
        have HLb:=Lib.hid (owns_below HL6.out ((Below.refl w6.heap.size w6).alloc (Nat.le_refl _) (.cells #[.slice da a2.length dc] 52)))
        go_wp2_with (at_builtin;refine wpList_append_own_at _ rfl (.tmp 11) (.tmp 14) _ rfl w.heap.size 52 i0 z0 1 24 Tryz.underlying55 hi0 hz0 hz1 hz2 hz3 (by omega) _ acc.length flat rfl HLb.out ⟨w6.heap.size,0,none⟩ 1 1 #[.slice da a2.length dc].toList rfl rfl ?c1 ?c2 ?c3 ?c4 ?c5 ?_)
        case c2=>simp [Value.oneCell']
        case c3=>unfold maxLen;omega
        case c4=>omega
        case c5=>have:=hsz;simp;omega
        intro v' w7 hown5 hgrow _ hat
        have hb4:Below w6.heap.size w6 (w6.alloc (.cells #[.slice da a2.length dc] 52)):=(Below.refl _ _).alloc (Nat.le_refl _) _
        have hat':v'.ownBlock=(Value.slice va acc.length vc).ownBlock∨v'.ownBlock=some (w6.alloc (.cells #[.slice da a2.length dc] 52)).heap.size:=by simpa using hat
        have HP7:=Lib.hid ((HP6.out.belowAll hb4).grown hgrow (fun g e=>by have:=owns_ge HL6.out g e;omega))
        have HF7:=Lib.hid ((HF6.out.bel hb4).grown hgrow (fun g e=>owns_ge HL6.out g e))
        have HE7:=Lib.hid (OptsF.mono (Wide.out (w':=w7) hat') (acc ++ [a2]) (OptsF.up ((Keep.grown (base:=w.heap.size) hgrow).imp fun k hk=>hk.1) (acc ++ [a2]) (OptsF.mono Wide.in_ (acc ++ [a2]) (OptsF.up (Keep.below hb4) (acc ++ [a2]) HE6.out))))
        have HL7:Hid (w7.ownsRow w.heap.size 52 1 v' (acc ++ [a2]).length (flat ++ #[.slice da a2.length dc].toList)):=by
         show World.ownsRow _ _ _ _ _ _ _
         rw [List.length_append]
         exact hown5
        clear hb4 hat hat' hgrow hown5 HLb HE6 HL6 HP6 HF6
        go_wp2
        go_roundg gk
        case measure=>omega
        case rel=>exact ⟨acc ++ [a2],_,k2,by omega,hk65,by rw [List.length_append,List.length_singleton];omega,HRk,HL7,HE7,HP7,HF7⟩
end Go.Proofs.YtpoghableadkcaaGreatDoor
end
section
/- Plain laws of the parser's statements: what is read lies ahead and within; there is fuel enough. -/
namespace Go.Proofs.YtpoghableadkcaaGreatDoor
set_option linter.unusedVariables false
set_option linter.unusedSimpArgs false

/-- Where a thing is read,the next word's number lies from k on,and within. -/
def Bt {A:Type} (E:Env) (k:Nat) (r:R A):Prop:=∀ a j,r=.ok a j→k ≤ j∧j ≤ E.L.length
section
variable {A B:Type} {k:Nat} {r:R A} {E:Env}
theorem Bt.bd {f:A→Nat→R B} (h:∀ a j,r=.ok a j→Bt E k (f a j)):Bt E k (r.bd f):=by
 intro b m hb
 cases r with
 | out=>cases hb
 | bad c a=>cases hb
 | ok a j=>exact h a j rfl b m hb
theorem Bt.ok {a:A} {j:Nat} (h:k ≤ j) (h2:j ≤ E.L.length):Bt E k (.ok a j):=by
 intro b m hb
 injection hb with _ hb
 omega
theorem Bt.wrong {i:Nat}:Bt E k (wrong E i:R A):=by rw [wrong_eq];exact fun _ _ h=>by cases h
theorem Bt.ite {c:Prop} [Decidable c] {x y:R A} (hx:c→Bt E k x) (hy:¬ c→Bt E k y):Bt E k (if c then x else y):=by
 split
 ·exact hx ‹_›
 ·exact hy ‹_›
theorem Bt.le {k':Nat} (h:Bt E k r) (hk:k' ≤ k):Bt E k' r:=fun a j e=>by have:=h a j e;omega
theorem Bt.none (h:∀ a j,r ≠ .ok a j):Bt E k r:=fun a j e=>absurd e (h a j)
theorem Bt.need {s:Bs} {i:Nat}:Bt E (i + 1) (need E s i):=fun u j h=>by have:=need_top h;omega
theorem Bt.pid {i:Nat}:Bt E (i + 1) (pid E i):=fun u j h=>by have:=pid_top h;omega
theorem Bt.expr {f l i:Nat}:Bt E (i + 1) (expr E f l i):=fun u j h=>⟨(advE E f).expr h,(topE E f).expr _ _ _ _ h⟩
theorem Bt.ref {f i:Nat}:Bt E (i + 1) (ref E f i):=fun u j h=>⟨(advE E f).ref h,(topE E f).ref _ _ _ h⟩
theorem Bt.arg {f i:Nat}:Bt E (i + 1) (arg E f i):=fun u j h=>⟨(advE E f).arg h,(topE E f).arg _ _ _ h⟩
theorem Bt.decl {f i:Nat}:Bt E (i + 1) (decl E f i):=fun u j h=>decl_adv _ _ _ h
theorem Bt.many {one:Nat→R A} (ho:∀ i,Bt E (i + 1) (one i)) {g i:Nat}:Bt E (i + 1) (many E one g i):=fun u j h=>many_pos' (fun i a k h=>ho i a k h) h
theorem Bt.within {one:Nat→R A} (ho:∀ i,Bt E (i + 1) (one i)) {g i:Nat}:Bt E (i + 1) (within E one g i):=fun u j h=>
 ⟨within_pos (fun i a k h=>(ho i a k h).1) h,within_top (fun i a k h=>(ho i a k h).2) g i _ _ h⟩
theorem Bt.message {one:Nat→R A} (ho:∀ i,Bt E (i + 1) (one i)) {g i:Nat}:Bt E (i + 1) (message E one g i):=fun u j h=>
 ⟨message_pos (fun i a k h=>(ho i a k h).1) h,message_top (fun i a k h=>(ho i a k h).2) g i _ _ h⟩
theorem seps_ge:∀ (g i:Nat),i ≤ seps E g i
 | 0,i=>Nat.le_refl _
 | g + 1,i=>by
  rw [seps]
  split
  ·have:=seps_ge g (i + 1);omega
  ·exact Nat.le_refl _
theorem seps_le:∀ (g i:Nat),i ≤ E.L.length→seps E g i ≤ E.L.length
 | 0,i,h=>h
 | g + 1,i,h=>by
  rw [seps]
  split
  ·next hs=>exact seps_le g (i + 1) (sees_lt hs)
  ·exact h
theorem semis_ge:∀ (g i:Nat),i ≤ semis E g i
 | 0,i=>Nat.le_refl _
 | g + 1,i=>by
  rw [semis]
  split
  ·have:=semis_ge g (i + 1);omega
  ·exact Nat.le_refl _
theorem semis_le:∀ (g i:Nat),i ≤ E.L.length→semis E g i ≤ E.L.length
 | 0,i,h=>h
 | g + 1,i,h=>by
  rw [semis]
  split
  ·next hs=>exact semis_le g (i + 1) (sees_lt hs)
  ·exact h
theorem Bt.decls {f:Nat} {stop:Bs}:∀ (g i:Nat),Bt E (i + 1) (decls E f stop g i)
 | 0,i=>Bt.none fun a j h=>by rw [Go.Proofs.YtpoghableadkcaaGreatDoor.decls] at h;cases h
 | g + 1,i=>by
  rw [Go.Proofs.YtpoghableadkcaaGreatDoor.decls]
  refine Bt.bd fun d j hj=>?_
  have h1:=Bt.decl _ _ hj
  have h2:=semis_ge (E:=E) E.L.length j
  have h3:=semis_le (E:=E) E.L.length j h1.2
  refine Bt.ite (fun _=>Bt.ok (by omega) h3) fun _=>Bt.bd fun l k hk=>?_
  have h4:=Bt.decls g _ _ _ hk
  exact Bt.ok (by omega) h4.2
end
theorem Bt.simple {E:Env} {f a i:Nat}:Bt E (i + 1) (Go.Proofs.YtpoghableadkcaaGreatDoor.simple E f a i):=by
 have hp:Bt E (i + 1) ((Go.Proofs.YtpoghableadkcaaGreatDoor.expr E f 0 i).bd fun e j=>R.ok (Stm.e1 2 a e) j):=Bt.bd fun e j hj=>by have:=Bt.expr _ _ hj;exact Bt.ok this.1 this.2
 unfold Go.Proofs.YtpoghableadkcaaGreatDoor.simple
 refine Bt.ite (fun _=>Bt.bd fun r j hj=>?_) fun _=>hp
 have h1:=Bt.ref _ _ hj
 refine Bt.ite (fun _=>Bt.bd fun e k hk=>?_) fun _=>Bt.ite (fun h=>?_) fun _=>Bt.ite (fun h=>?_) fun _=>Bt.ite (fun h=>Bt.bd fun l k hk=>?_) fun _=>Bt.ite (fun h=>Bt.ite (fun h=>Bt.bd fun l k hk=>Bt.bd fun u m hm=>?_) fun _=>Bt.bd fun l k hk=>?_) fun _=>hp
 ·have:=Bt.expr _ _ hk;exact Bt.ok (by omega) this.2
 ·have:=sees_lt h;exact Bt.ok (by omega) this
 ·have:=sees_lt h;exact Bt.ok (by omega) this
 ·have:=Bt.message (fun i=>Bt.expr) _ _ hk;exact Bt.ok (by omega) this.2
 ·have h2:=Bt.message (fun i=>Bt.arg) _ _ hk
  have:=Bt.need _ _ hm;exact Bt.ok (by omega) this.2
 ·have:=Bt.message (fun i=>Bt.arg) _ _ hk;exact Bt.ok (by omega) this.2

structure BtS (E:Env) (f:Nat):Prop where
 stmt:∀ i,Bt E (i + 1) (stmt E f i)
 body:∀ i,Bt E (i + 1) (body E f i)
 sequence:∀ i,Bt E (i + 1) (sequence E f i)
 step:∀ i,Bt E (i + 1) (step E f i)
 options:∀ stop i,Bt E (i + 1) (options E f stop i)
theorem btS (E:Env):∀ f,BtS E f
 | 0=>by constructor <;> intros <;> refine Bt.none fun a j h=>?_ <;> simp [Go.Proofs.YtpoghableadkcaaGreatDoor.stmt,Go.Proofs.YtpoghableadkcaaGreatDoor.body,Go.Proofs.YtpoghableadkcaaGreatDoor.sequence,Go.Proofs.YtpoghableadkcaaGreatDoor.step,Go.Proofs.YtpoghableadkcaaGreatDoor.options] at h
 | f + 1=>by
  have ih:=btS E f
  constructor
  ·intro i
   rw [Go.Proofs.YtpoghableadkcaaGreatDoor.stmt]
   refine Bt.ite (fun h=>Bt.bd fun s j hj=>?_) fun _=>Bt.ite (fun h=>Bt.bd fun s j hj=>?_) fun _=>Bt.ite (fun h=>Bt.bd fun s j hj=>?_) fun _=>Bt.ite (fun h=>Bt.bd fun s j hj=>?_) fun _=>Bt.ite (fun h=>Bt.bd fun s j hj=>?_) fun _=>Bt.ite (fun h=>Bt.bd fun s j hj=>?_) fun _=>Bt.ite (fun h=>?_) fun _=>Bt.ite (fun h=>?_) fun _=>Bt.ite (fun h=>?_) fun _=>Bt.ite (fun h=>Bt.bd fun s j hj=>?_) fun _=>Bt.ite (fun h=>Bt.bd fun s j hj=>Bt.bd fun e k hk=>Bt.bd fun u m hm=>?_) fun _=>Bt.ite (fun h=>Bt.bd fun s j hj=>Bt.ite (fun h=>Bt.bd fun l k hk=>Bt.bd fun u m hm=>?_) fun _=>Bt.wrong) fun _=>Bt.ite (fun h=>Bt.bd fun l j hj=>?_) fun _=>Bt.simple
   ·have:=ih.stmt _ _ _ hj;exact Bt.ok (by omega) this.2
   ·have:=ih.body _ _ _ hj;exact Bt.ok (by omega) this.2
   ·have:=ih.body _ _ _ hj;exact Bt.ok (by omega) this.2
   ·have:=ih.body _ _ _ hj;exact Bt.ok (by omega) this.2
   ·have:=ih.options _ _ _ _ hj;exact Bt.ok (by omega) this.2
   ·have:=ih.options _ _ _ _ hj;exact Bt.ok (by omega) this.2
   ·exact Bt.ok (Nat.le_refl _) (sees_lt h)
   ·exact Bt.ok (Nat.le_refl _) (sees_lt h)
   ·exact Bt.ok (Nat.le_refl _) (sees_lt h)
   ·have:=Bt.pid _ _ hj;exact Bt.ok (by omega) this.2
   ·have h1:=Bt.need _ _ hj
    have h2:=Bt.expr _ _ hk
    have h3:=Bt.need _ _ hm
    exact Bt.ok (by omega) h3.2
   ·have h1:=Bt.need _ _ hj
    have h3:=Bt.need _ _ hm
    have h2:j ≤ k:=by
     refine (Bt.ite (c:=sees E (j + 1) [[44]]=true) (k:=j) (E:=E) (fun h=>(Bt.many (fun i=>Bt.expr)).le (by omega)) (fun _=>Bt.ok (by omega) (kind_lt (E:=E) (by omega))) _ _ hk).1
    exact Bt.ok (by omega) h3.2
   ·have:=Bt.within (fun i=>Bt.expr) _ _ hj;exact Bt.ok (by omega) this.2
  ·intro i
   rw [Go.Proofs.YtpoghableadkcaaGreatDoor.body]
   refine Bt.bd fun u j hj=>Bt.bd fun l k hk=>Bt.bd fun u m hm=>?_
   have h1:=Bt.need _ _ hj
   have h2:=ih.sequence _ _ _ hk
   have h3:=Bt.need _ _ hm
   exact Bt.ok (by omega) h3.2
  ·intro i
   rw [Go.Proofs.YtpoghableadkcaaGreatDoor.sequence]
   refine Bt.bd fun s j hj=>?_
   have h1:=ih.step _ _ _ hj
   have h2:=seps_ge (E:=E) E.L.length j
   have h3:=seps_le (E:=E) E.L.length j h1.2
   refine Bt.ite (fun _=>Bt.ok (by omega) h3) fun _=>Bt.ite (fun _=>Bt.bd fun l k hk=>?_) fun _=>Bt.wrong
   have h4:=ih.sequence _ _ _ hk
   exact Bt.ok (by omega) h4.2
  ·intro i
   rw [Go.Proofs.YtpoghableadkcaaGreatDoor.step]
   refine Bt.ite (fun _=>Bt.bd fun d j hj=>?_) fun _=>Bt.bd fun s j hj=>Bt.ite (fun _=>Bt.bd fun t k hk=>?_) fun _=>?_
   ·have:=Bt.decl _ _ hj;exact Bt.ok (by omega) this.2
   ·have h1:=ih.stmt _ _ _ hj
    have h2:=ih.stmt _ _ _ hk
    exact Bt.ok (by omega) h2.2
   ·have:=ih.stmt _ _ _ hj;exact Bt.ok (by omega) this.2
  ·intro stop i
   rw [Go.Proofs.YtpoghableadkcaaGreatDoor.options]
   refine Bt.bd fun u j hj=>Bt.bd fun l k hk=>?_
   have h1:=Bt.need _ _ hj
   have h2:=ih.sequence _ _ _ hk
   refine Bt.ite (fun h=>Bt.ok (by omega) (sees_lt h)) fun _=>Bt.bd fun r m hm=>?_
   have h3:=ih.options _ _ _ _ hm
   exact Bt.ok (by omega) h3.2
end Go.Proofs.YtpoghableadkcaaGreatDoor
end
section
/- There is fuel enough, for declarations and statements. -/
namespace Go.Proofs.YtpoghableadkcaaGreatDoor
set_option linter.unusedVariables false
set_option linter.unusedSimpArgs false

theorem fu_field {E:Env} {i:Nat}:Fu (field E i):=by
 unfold field
 exact Fu.ite (fun _=>Fu.wrong) fun _=>Fu.ok
theorem fu_ivar {E:Env} {f i:Nat} (hi:i ≤ E.L.length) (hf:8 * (E.L.length - i) + 5 < f):Fu (ivar E f i):=by
 rw [ivar_eq]
 refine Fu.bd Fu.pid fun n j hj=>?_
 have h1:=Bt.pid _ _ hj
 refine Fu.bd ?_ fun p k hk=>?_
 ·refine Fu.ite (fun h=>?_) fun _=>Fu.ok
  have:=sees_lt h
  exact Fu.bd ((fuE E f).expr _ _ (by omega) (by omega)) fun a k hk=>Fu.bd Fu.need fun u m hm=>Fu.ok
 ·have h2:j ≤ k∧k ≤ E.L.length:=by
   refine Bt.ite (c:=sees E j [[91]]=true) (k:=j) (E:=E) (fun h=>Bt.bd fun a m hm=>Bt.bd fun u q hq=>?_) (fun _=>Bt.ok (Nat.le_refl _) h1.2) _ _ hk
   have h3:=Bt.expr _ _ hm
   have h4:=Bt.need _ _ hq
   exact Bt.ok (by omega) h4.2
  unfold ivarRest
  refine Fu.ite (fun h=>Fu.ite (fun h5=>Fu.bd ((fuE E f).expr _ _ (by have:=sees_lt h5;omega) (by omega)) fun e m hm=>Fu.bd Fu.need fun _ m2 g2=>Fu.bd Fu.need fun _ m3 g3=>Fu.bd Fu.need fun _ m4 g4=>Fu.bd ?_ fun l m5 g5=>Fu.bd Fu.need fun _ m6 g6=>Fu.ok) fun _=>Fu.bd ((fuE E f).expr _ _ (by have:=sees_lt h;omega) (by omega)) fun e m hm=>Fu.ok) fun _=>Fu.ok
  have a1:=Bt.expr _ _ hm
  have a2:=Bt.need _ _ g2
  have a3:=Bt.need _ _ g3
  have a4:=Bt.need _ _ g4
  exact Fu.many (lo:=0) (fun k _ _=>fu_field) field_adv (Nat.zero_le _) a4.2 (by omega)
theorem fu_decl {E:Env} {f i:Nat} (hi:i ≤ E.L.length) (hf:8 * (E.L.length - i) + 5 < f):Fu (decl E f i):=by
 unfold decl
 refine Fu.ite (fun h=>?_) fun _=>Fu.bd Fu.pid fun n j hj=>?_
 ·have hlt:i < E.L.length:=kind_lt (E:=E) (fun h0=>by unfold kindOf at h;rw [if_neg (by omega)] at h;omega)
  exact Fu.bd (Fu.many (lo:=i + 1) (fun k h1 h2=>fu_ivar h2 (by omega)) ivar_adv (by omega) hlt (by omega)) fun l j hj=>Fu.ok
 ·have h1:=Bt.pid _ _ hj
  exact Fu.bd (Fu.many (lo:=i + 1) (fun k h1 h2=>fu_ivar h2 (by omega)) ivar_adv (by omega) h1.2 (by omega)) fun l j hj=>Fu.ok
theorem fu_decls {E:Env} {f:Nat} {stop:Bs}:∀ (g i:Nat),i ≤ E.L.length→8 * (E.L.length - i) + 5 < f→E.L.length < i + g→Fu (decls E f stop g i)
 | 0,i,hi,hf,hg=>by omega
 | g + 1,i,hi,hf,hg=>by
  rw [decls]
  refine Fu.bd (fu_decl hi hf) fun d j hj=>?_
  have h1:=Bt.decl _ _ hj
  have h2:=semis_ge (E:=E) E.L.length j
  have h3:=semis_le (E:=E) E.L.length j h1.2
  exact Fu.ite (fun _=>Fu.ok) fun _=>Fu.bd (fu_decls g _ h3 (by omega) (by omega)) fun l k hk=>Fu.ok
theorem pe0 {E:Env} {f:Nat}:∀ i a k,expr E f 0 i=.ok a k→i < k∧k ≤ E.L.length:=fun i a k h=>⟨(advE E f).expr h,(topE E f).expr _ _ _ _ h⟩
theorem pa0 {E:Env} {f:Nat}:∀ i a k,arg E f i=.ok a k→i < k∧k ≤ E.L.length:=fun i a k h=>⟨(advE E f).arg h,(topE E f).arg _ _ _ h⟩
theorem fu_simple {E:Env} {f a i:Nat} (hi:i ≤ E.L.length) (hf:8 * (E.L.length - i) + 5 < f):Fu (simple E f a i):=by
 have hp:Fu ((expr E f 0 i).bd fun e j=>R.ok (Stm.e1 2 a e) j):=Fu.bd ((fuE E f).expr _ _ hi hf) fun e j hj=>Fu.ok
 unfold simple
 refine Fu.ite (fun _=>Fu.bd ((fuE E f).ref _ hi (by omega)) fun r j hj=>?_) fun _=>hp
 have h1:=Bt.ref _ _ hj
 refine Fu.ite (fun h=>Fu.bd ((fuE E f).expr _ _ (sees_lt h) (by omega)) fun e k hk=>Fu.ok) fun _=>Fu.ite (fun h=>Fu.ok) fun _=>Fu.ite (fun h=>Fu.ok) fun _=>Fu.ite (fun h=>Fu.bd ?_ fun l k hk=>Fu.ok) fun _=>Fu.ite (fun h=>Fu.ite (fun h2=>Fu.bd ?_ fun l k hk=>Fu.bd Fu.need fun u m hm=>Fu.ok) fun _=>Fu.bd ?_ fun l k hk=>Fu.ok) fun _=>hp
 ·exact Fu.message (lo:=i) (fun k g1 g2=>(fuE E f).expr _ _ g2 (by omega)) pe0 (by omega) (sees_lt h) (by omega)
 ·exact Fu.message (lo:=i) (fun k g1 g2=>(fuE E f).arg _ g2 (by omega)) pa0 (by omega) (sees_lt h2) (by omega)
 ·simp only [Bool.and_eq_true] at h
  exact Fu.message (lo:=i) (fun k g1 g2=>(fuE E f).arg _ g2 (by omega)) pa0 (by omega) (sees_lt h.1) (by omega)

structure FuS (E:Env) (f:Nat):Prop where
 stmt:∀ i,i ≤ E.L.length→16 * (E.L.length - i) + 12 < f→Fu (stmt E f i)
 body:∀ i,i ≤ E.L.length→16 * (E.L.length - i) + 11 < f→Fu (body E f i)
 sequence:∀ i,i ≤ E.L.length→16 * (E.L.length - i) + 14 < f→Fu (sequence E f i)
 step:∀ i,i ≤ E.L.length→16 * (E.L.length - i) + 13 < f→Fu (step E f i)
 options:∀ stop i,i ≤ E.L.length→16 * (E.L.length - i) + 12 < f→Fu (options E f stop i)
theorem fuS (E:Env):∀ f,FuS E f
 | 0=>by constructor <;> intros <;> omega
 | f + 1=>by
  have ih:=fuS E f
  have bt:=btS E f
  constructor
  ·intro i hi hf
   rw [Go.Proofs.YtpoghableadkcaaGreatDoor.stmt]
   refine Fu.ite (fun h=>?_) fun _=>Fu.ite (fun h=>Fu.bd (ih.body _ hi (by omega)) fun s j hj=>Fu.ok) fun _=>Fu.ite (fun h=>Fu.bd (ih.body (i + 1) (sees_lt h) (by have:=sees_lt h;omega)) fun s j hj=>Fu.ok) fun _=>Fu.ite (fun h=>Fu.bd (ih.body (i + 1) (sees_lt h) (by have:=sees_lt h;omega)) fun s j hj=>Fu.ok) fun _=>Fu.ite (fun h=>Fu.bd (ih.options _ (i + 1) (sees_lt h) (by have:=sees_lt h;omega)) fun s j hj=>Fu.ok) fun _=>Fu.ite (fun h=>Fu.bd (ih.options _ (i + 1) (sees_lt h) (by have:=sees_lt h;omega)) fun s j hj=>Fu.ok) fun _=>Fu.ite (fun h=>Fu.ok) fun _=>Fu.ite (fun h=>Fu.ok) fun _=>Fu.ite (fun h=>Fu.ok) fun _=>Fu.ite (fun h=>Fu.bd Fu.pid fun s j hj=>Fu.ok) fun _=>Fu.ite (fun h=>Fu.bd Fu.need fun s j hj=>?_) fun _=>Fu.ite (fun h=>Fu.bd Fu.need fun s j hj=>Fu.ite (fun h=>Fu.bd ?_ fun l k hk=>Fu.bd Fu.need fun u m hm=>Fu.ok) fun _=>Fu.wrong) fun _=>Fu.ite (fun h=>Fu.bd ?_ fun l j hj=>Fu.ok) fun _=>fu_simple hi (by omega)
   ·simp only [Bool.and_eq_true] at h
    have:=sees_lt h.2
    exact Fu.bd (ih.stmt _ (by omega) (by omega)) fun s j hj=>Fu.ok
   ·have h1:=Bt.need _ _ hj
    exact Fu.bd ((fuE E f).expr _ _ h1.2 (by omega)) fun e k hk=>Fu.bd Fu.need fun u m hm=>Fu.ok
   ·have h1:=Bt.need _ _ hj
    refine Fu.ite (fun h=>?_) fun _=>Fu.ok
    have:=sees_lt h
    exact Fu.many (lo:=i) (fun k g1 g2=>(fuE E f).expr _ _ g2 (by omega)) pe0 (by omega) (by omega) (by omega)
   ·simp only [Bool.and_eq_true] at h
    have:=sees_lt h.2
    exact Fu.within (lo:=i) (fun k g1 g2=>(fuE E f).expr _ _ g2 (by omega)) pe0 (by omega) (by omega) (by omega)
  ·intro i hi hf
   rw [Go.Proofs.YtpoghableadkcaaGreatDoor.body]
   refine Fu.bd Fu.need fun u j hj=>?_
   have h1:=Bt.need _ _ hj
   exact Fu.bd (ih.sequence _ h1.2 (by omega)) fun l k hk=>Fu.bd Fu.need fun u m hm=>Fu.ok
  ·intro i hi hf
   rw [Go.Proofs.YtpoghableadkcaaGreatDoor.sequence]
   refine Fu.bd (ih.step _ hi (by omega)) fun s j hj=>?_
   have h1:=bt.step _ _ _ hj
   have h2:=seps_ge (E:=E) E.L.length j
   have h3:=seps_le (E:=E) E.L.length j h1.2
   exact Fu.ite (fun _=>Fu.ok) fun _=>Fu.ite (fun _=>Fu.bd (ih.sequence _ h3 (by omega)) fun l k hk=>Fu.ok) fun _=>Fu.wrong
  ·intro i hi hf
   rw [Go.Proofs.YtpoghableadkcaaGreatDoor.step]
   refine Fu.ite (fun _=>Fu.bd (fu_decl hi (by omega)) fun d j hj=>Fu.ok) fun _=>Fu.bd (ih.stmt _ hi (by omega)) fun s j hj=>Fu.ite (fun h=>?_) fun _=>Fu.ok
   have h1:=bt.stmt _ _ _ hj
   exact Fu.bd (ih.stmt _ (sees_lt h) (by omega)) fun t k hk=>Fu.ok
  ·intro stop i hi hf
   rw [Go.Proofs.YtpoghableadkcaaGreatDoor.options]
   refine Fu.bd Fu.need fun u j hj=>?_
   have h1:=Bt.need _ _ hj
   refine Fu.bd (ih.sequence _ h1.2 (by omega)) fun l k hk=>?_
   have h2:=bt.sequence _ _ _ hk
   exact Fu.ite (fun h=>Fu.ok) fun _=>Fu.bd (ih.options _ _ h2.2 (by omega)) fun r m hm=>Fu.ok
end Go.Proofs.YtpoghableadkcaaGreatDoor
end
