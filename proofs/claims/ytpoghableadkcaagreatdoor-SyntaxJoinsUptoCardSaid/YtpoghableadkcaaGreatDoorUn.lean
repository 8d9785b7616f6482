/- The walk of unit (printed by mkunit.py). -/
import Derived.Test.YtpoghableadkcaaGreatDoorM17
import Derived.Test.YtpoghableadkcaaGreatDoorM09
import Derived.Deep.DeepCutAuto
import Derived.Deep.CutBlock
namespace Go.Proofs.YtpoghableadkcaaGreatDoor
open Go.RowKit
set_option linter.unusedVariables false
set_option linter.unusedSimpArgs false

theorem UntF.one {P:Nat→Prop} {w:World} {u:Unt} {cs:List Value} (h:UntF P w u cs):cs.length=21∧cs.all (·.oneCell')=true:=by
 obtain ⟨vn,cn,ci,ch,ck,ca,dv,vd,vb,rfl,h2,h3,⟨f4,h4,_⟩,⟨f5,h5,_⟩,⟨f6,h6,_⟩⟩:=h
 obtain ⟨_,_,rfl,_⟩:=h2.form
 obtain ⟨ea1,en1,ec1,ea2,en2,ec2,ea3,en3,ec3,ea4,en4,ec4,ea5,en5,ec5,rfl,rfl,rfl,rfl,rfl⟩:=h3.forms
 obtain ⟨_,_,rfl,_⟩:=h4.form
 obtain ⟨_,_,rfl,_⟩:=h5.form
 obtain ⟨_,_,rfl,_⟩:=h6.form
 exact ⟨by simp [Ast.cells],by simp [Ast.cells,Value.oneCell']⟩
def procTl (E:Env) (f a:Nat) (p:Bool × Ast) (j:Nat):R Unt:=
 (need E [112,114,111,99,116,121,112,101] j).bd fun _ j=>(pid E j).bd fun n j=>(need E [40] j).bd fun _ j=>
  (if sees E j [[41]] then R.ok [] j else decls E f [41] f j).bd fun l k=>(need E [41] k).bd fun _ k=>(body E f k).bd fun b m=>
  .ok ⟨4,a,n,[],[],p.1,p.2,.zero,l,b⟩ m
theorem oneId {E:Env} {p:Nat} {vl:Value}:OneOk p vl E StrE 52 #[.pointer (some ⟨p,0,none⟩)] #[] (pid E):=
 ⟨enters_of Tryz.func52 (by decide) rfl,fun hP hne=>idFn hP⟩

set_option maxHeartbeats 4000000 in
set_option maxRecDepth 1000000 in
theorem unitFn {E:Env} (hO:EnvOk E) {f:Nat} {w:World} {p i:Nat} {vl:Value} (hP:Par w p vl E i) (hne:unitP E f i ≠ .out):
  Calls Tryz.prog 19 #[.pointer (some ⟨p,0,none⟩)] w (Out p vl E w (UntV (From w.heap.size)) (unitP E f i)):=by
 have hp1:=hP.lt
 obtain ⟨Rr,hRr⟩:∃ Rr,unitP E f i=Rr:=⟨_,rfl⟩
 rw [hRr] at hne ⊢
 have HNE:=Lib.hid hne
 have HO:=Lib.hid hO
 have HIH:=Lib.hid (stmOk E f)
 have hfd:=field_tok3
 have hmf:∀ (fn:Fn) (first cap:Array Value) (w:World),(Instr.makeFunc fn first cap).run Tryz.prog w=.ok (.func fn first cap) w:=fun _ _ _ _=>rfl
 obtain ⟨t,ht⟩:∃ t,tokAt E i=t:=⟨_,rfl⟩
 unfold unitP at hRr
 dsimp only at hRr
 rw [placeAt_tok,ht] at hRr
 have HQ:=Lib.hid hRr
 have Ht:=Lib.hid ht
 have HX0:=Lib.hid (Cx.start hP 54 #[.int .i64 0,.int .i64 0,.string ⟨#[]⟩,.string ⟨#[]⟩,.slice none 0 0,.bool false,.int .i64 0,.int .i64 0,.string ⟨#[]⟩,.string ⟨#[]⟩,.slice none 0 0,.slice none 0 0,.slice none 0 0,.slice none 0 0,.slice none 0 0,.int .i64 0,.string ⟨#[]⟩,.slice none 0 0,.int .i64 0,.slice none 0 0,.slice none 0 0])
 have HB:Hid (∀ c a wz,Rr=.bad c a→Fp p w wz→Out p vl E w (UntV (From w.heap.size)) Rr (.panicked (badChain c a)) wz):=fun c a wz h hF=>by rw [h];exact ⟨rfl,hF⟩
 clear hne ht hP hRr hO
 go_enter Tryz.func19,Tryz.ntmps19
 have hT:=HX0.out.word Ht.out
 unfold tokV at hT
 have HT:=Lib.hid hT
 clear HX0 hT
 go_wp2_with (fail)
 refine HT.out.mono ?_
 rintro e w1 ⟨rfl,HX1⟩
 clear HT
 go_wp2_with (refine wpList_store1 rfl 3 _ _ rfl (w.heap.size) 1 (.int .i64 (t.at_:Int)) rfl rfl HX1.out.box (Nat.le_of_ble_eq_true rfl) sz_int rfl rfl ?_)
 refine Named.mk (fun w2 hW=>?_)
 have HX2:=Lib.hid (HX1.out.store hW (Nat.le_of_ble_eq_true rfl))
 clear hW HX1
 go_upto_block 0 with (fail)
 go_cut [] (fun wx=>∃ (s:Unt) (j:Nat) (cs:List Value),Hid (R.ok s j=Rr)∧Hid (UntF (From (w.heap.size + 1)) wx s cs)∧Hid (Cx w p vl E w.heap.size 54 (fun _=>True) wx j cs))
 case first=>
  go_upto_region 3 with (fail)
  go_cut [11] (fun sq wx=>∃ q:Bool,sq=.bool q∧Hid ((sees E i [[109,116,121,112,101]] && sees E (i + 1) [[61],[123]])=q)∧Hid (Cx w p vl E w.heap.size 54 (fun _=>True) wx i [.int .i64 0,.int .i64 (t.at_:Int),.string ⟨#[]⟩,.string ⟨#[]⟩,.slice none 0 0,.bool false,.int .i64 0,.int .i64 0,.string ⟨#[]⟩,.string ⟨#[]⟩,.slice none 0 0,.slice none 0 0,.slice none 0 0,.slice none 0 0,.slice none 0 0,.int .i64 0,.string ⟨#[]⟩,.slice none 0 0,.int .i64 0,.slice none 0 0,.slice none 0 0]))
  case first=>
   obtain hs | hs:=tf (sees E i [[109,116,121,112,101]])
   ·have HT:=Lib.hid (HX2.out.see0 [[109,116,121,112,101]] #[.string ⟨#[109,116,121,112,101]⟩] rfl (by decide) hs)
    have HS1:=Lib.hid hs
    clear HX2 hs
    go_wp2_with (fail)
    refine HT.out.mono ?_
    rintro e w3 ⟨rfl,HX3⟩
    clear HT
    obtain hs | hs:=tf (sees E (i + 1) [[61],[123]])
    ·have HT:=Lib.hid (HX3.out.see1 [[61],[123]] #[.string ⟨#[61]⟩,.string ⟨#[123]⟩] rfl (by decide) hs)
     have HS2:=Lib.hid hs
     clear HX3 hs
     go_wp2_with (fail)
     refine HT.out.mono ?_
     rintro e w4 ⟨rfl,HX4⟩
     clear HT
     go_wp2_with (fail)
     go_meet
     case rel=>exact ⟨true,rfl,by show _=_;rw [HS1.out,HS2.out];rfl,HX4⟩
    have HT:=Lib.hid (HX3.out.see1 [[61],[123]] #[.string ⟨#[61]⟩,.string ⟨#[123]⟩] rfl (by decide) hs)
    have HS2:=Lib.hid hs
    clear HX3 hs
    go_wp2_with (fail)
    refine HT.out.mono ?_
    rintro e w5 ⟨rfl,HX5⟩
    clear HT
    go_wp2_with (fail)
    go_meet
    case rel=>exact ⟨false,rfl,by show _=_;rw [HS2.out,Bool.and_false],HX5⟩
   have HT:=Lib.hid (HX2.out.see0 [[109,116,121,112,101]] #[.string ⟨#[109,116,121,112,101]⟩] rfl (by decide) hs)
   have HS1:=Lib.hid hs
   clear HX2 hs
   go_wp2_with (fail)
   refine HT.out.mono ?_
   rintro e w6 ⟨rfl,HX6⟩
   clear HT
   go_wp2_with (fail)
   go_meet
   case rel=>exact ⟨false,rfl,by show _=_;rw [HS1.out,Bool.false_and],HX6⟩
  case rest=>
   clear HX2
   obtain ⟨q,rfl,HQ1,HX7⟩:=hcut
   cases q with
   | true=>
    replace HQ:=Lib.hid ((ite_yes HQ1.out).symm.trans HQ.out)
    go_wp2_with (refine wpList_store1 rfl 3 _ _ rfl (w.heap.size) 0 (.int .i64 1) rfl rfl HX7.out.box (Nat.le_of_ble_eq_true rfl) sz_int rfl rfl ?_)
    refine Named.mk (fun w8 hW=>?_)
    have HX8:=Lib.hid (HX7.out.store hW (Nat.le_of_ble_eq_true rfl))
    clear hW HX7
    have HLT:=Lib.hid (Nat.le_of_lt (sees_lt (E:=E) (i:=i + 1) (by have h:=HQ1.out;rw [Bool.and_eq_true] at h;exact h.2)))
    obtain ⟨c0,c1,c2,f2⟩:=HX8.out.par.cells
    have hj65:=HX8.out.few
    go_wp2_with (refine wpList_store1 rfl 3 _ _ rfl p 2 (.int .i64 ((i:Int) + 1)) rfl rfl HX8.out.par.at_ (by simp) sz_int rfl rfl ?_)
    refine Named.mk (fun w9 hW=>?_)
    have HX9:=Lib.hid (HX8.out.set (j':=i + 1) HLT.out hW)
    clear hW c0 c1 c2 f2 hj65 HX8
    obtain ⟨q2,hq2⟩:∃ b:Bool,sees E (i + 1) [[61]]=b:=⟨_,rfl⟩
    have Hq2:=Lib.hid hq2
    have HT:=Lib.hid (HX9.out.takes [[61]] #[.string ⟨#[61]⟩] rfl (by decide) q2 hq2)
    clear HX9 hq2
    go_wp2_with (fail)
    refine HT.out.mono ?_
    rintro e w10 ⟨rfl,HX10⟩
    clear HT
    have hQ:=HQ.out
    rw [Hq2.out] at hQ
    replace HQ:=Lib.hid hQ
    clear hQ
    have HC:=Lib.hid (HX10.out.part (needFn HX10.out.par [123]) HQ.out)
    clear HQ HX10 
    go_wp2_with (fail)
    refine HC.out _ (fun c a wz h hF=>⟨rfl,HB.out c a wz h hF⟩) ?_
    rintro u j2 v w11 hr HQ hv HX11
    clear hr HC
    obtain rfl:=hv
    have hszP:=HX11.out.low
    have HC:=Lib.hid (HX11.out.part (listStrFn f (pid E) _ _ _ HX11.out.par oneId (fun i a k h=>Nat.le_of_lt (pid_adv i a k h).1) (bd_ne HQ.out HNE.out)) HQ.out)
    clear HQ HX11 
    go_wp2_with (fail)
    refine HC.out _ (fun c a wz h hF=>⟨rfl,HB.out c a wz h hF⟩) ?_
    rintro l j3 v w12 hr HQ hv HX12
    clear hr HC
    obtain ⟨ff,hr,hf⟩:=hv
    obtain ⟨na,nc,hvf,_⟩:=hr.form
    subst hvf
    replace HX12:=Lib.hid (HX12.out.and (V:=fun W=>StrsE (From w11.heap.size) W (.slice na l.length nc) l) ⟨ff,hr,hf⟩ (fun k h=>h.up (k.keep (by show ¬ _;omega) (by show ¬ _;omega))))
    clear hr hf
    go_wp2_with (refine wpList_store1 rfl 34 _ _ rfl (w.heap.size) 4 (.slice na l.length nc) rfl rfl HX12.out.box (Nat.le_of_ble_eq_true rfl) sz_Strs rfl rfl ?_)
    refine Named.mk (fun w13 hW=>?_)
    have HX13:=Lib.hid (HX12.out.store hW (Nat.le_of_ble_eq_true rfl))
    clear hW HX12
    have HC:=Lib.hid (HX13.out.part (needFn HX13.out.par [125]) HQ.out)
    clear HQ HX13 
    go_wp2_with (fail)
    refine HC.out _ (fun c a wz h hF=>⟨rfl,HB.out c a wz h hF⟩) ?_
    rintro u j4 v w14 hr HQ hv HX14
    clear hr HC
    obtain rfl:=hv
    go_wp2_with (fail)
    go_meet
    case rel=>exact ⟨_,_,_,HQ,Lib.hid (UntF.of (StrsE.row (HX14.out.q.2.mono (Wide.from hszP))) AstF.zero DvsV.nil DclsV.nil stms_nil),Lib.hid HX14.out.forget⟩
   | false=>
    replace HQ:=Lib.hid ((ite_no HQ1.out).symm.trans HQ.out)
    obtain hs | hs:=tf (sees E i [[116,121,112,101,100,101,102]])
    ·have HT:=Lib.hid (HX7.out.takesY [[116,121,112,101,100,101,102]] #[.string ⟨#[116,121,112,101,100,101,102]⟩] rfl (by decide) hs)
     replace HQ:=Lib.hid ((ite_yes hs).symm.trans HQ.out)
     clear HX7 hs
     go_wp2_with (fail)
     refine HT.out.mono ?_
     rintro e w15 ⟨rfl,HX15⟩
     clear HT
     have HC:=Lib.hid (HX15.out.part (idFn HX15.out.par) HQ.out)
     clear HQ HX15 
     go_wp2_with (fail)
     refine HC.out _ (fun c a wz h hF=>⟨rfl,HB.out c a wz h hF⟩) ?_
     rintro s j2 v w16 hr HQ hv HX16
     clear hr HC
     obtain rfl:=hv
     go_wp2_with (refine wpList_store1 rfl 3 _ _ rfl (w.heap.size) 0 (.int .i64 3) rfl rfl HX16.out.box (Nat.le_of_ble_eq_true rfl) sz_int rfl rfl ?_)
     refine Named.mk (fun w17 hW=>?_)
     have HX17:=Lib.hid (HX16.out.store hW (Nat.le_of_ble_eq_true rfl))
     clear hW HX16
     go_wp2_with (refine wpList_store1 rfl 9 _ _ rfl (w.heap.size) 2 (.string ⟨s.toArray⟩) rfl rfl HX17.out.box (Nat.le_of_ble_eq_true rfl) sz_string rfl rfl ?_)
     refine Named.mk (fun w18 hW=>?_)
     have HX18:=Lib.hid (HX17.out.store hW (Nat.le_of_ble_eq_true rfl))
     clear hW HX17
     have HC:=Lib.hid (HX18.out.part (needFn HX18.out.par [123]) HQ.out)
     clear HQ HX18 
     go_wp2_with (fail)
     refine HC.out _ (fun c a wz h hF=>⟨rfl,HB.out c a wz h hF⟩) ?_
     rintro u j3 v w19 hr HQ hv HX19
     clear hr HC
     obtain rfl:=hv
     have hszP:=HX19.out.low
     have HC:=Lib.hid (HX19.out.part (declsFn [125] HX19.out.par (bd_ne HQ.out HNE.out)) HQ.out)
     clear HQ HX19 
     go_wp2_with (fail)
     refine HC.out _ (fun c a wz h hF=>⟨rfl,HB.out c a wz h hF⟩) ?_
     rintro l j4 v w20 hr HQ hv HX20
     clear hr HC
     obtain ⟨ff,hr,hf⟩:=hv
     obtain ⟨da,dc,hvf,_⟩:=hr.form
     subst hvf
     replace HX20:=Lib.hid (HX20.out.and (V:=fun W=>DclsV (From w19.heap.size) W (.slice da l.length dc) l) ⟨ff,hr,hf⟩ (fun k h=>h.up (k.keep (by show ¬ _;omega) (by show ¬ _;omega))))
     clear hr hf
     go_wp2_with (refine wpList_store1 rfl 51 _ _ rfl (w.heap.size) 19 (.slice da l.length dc) rfl rfl HX20.out.box (Nat.le_of_ble_eq_true rfl) sz_Dcls rfl rfl ?_)
     refine Named.mk (fun w21 hW=>?_)
     have HX21:=Lib.hid (HX20.out.store hW (Nat.le_of_ble_eq_true rfl))
     clear hW HX20
     have HC:=Lib.hid (HX21.out.part (needFn HX21.out.par [125]) HQ.out)
     clear HQ HX21 
     go_wp2_with (fail)
     refine HC.out _ (fun c a wz h hF=>⟨rfl,HB.out c a wz h hF⟩) ?_
     rintro u j5 v w22 hr HQ hv HX22
     clear hr HC
     obtain rfl:=hv
     go_wp2_with (fail)
     go_meet
     case rel=>exact ⟨_,_,_,HQ,Lib.hid (UntF.of (RowL.nil _ _ _) AstF.zero DvsV.nil (HX22.out.q.2.mono (Wide.from hszP)) stms_nil),Lib.hid HX22.out.forget⟩
    have HT:=Lib.hid (HX7.out.takesN [[116,121,112,101,100,101,102]] #[.string ⟨#[116,121,112,101,100,101,102]⟩] rfl (by decide) hs)
    replace HQ:=Lib.hid ((ite_no hs).symm.trans HQ.out)
    clear HX7 hs
    go_wp2_with (fail)
    refine HT.out.mono ?_
    rintro e w23 ⟨rfl,HX23⟩
    clear HT
    obtain hs | hs:=tf (sees E i [[97,99,116,105,118,101],[112,114,111,99,116,121,112,101]])
    ·have HT:=Lib.hid (HX23.out.see0 [[97,99,116,105,118,101],[112,114,111,99,116,121,112,101]] #[.string ⟨#[97,99,116,105,118,101]⟩,.string ⟨#[112,114,111,99,116,121,112,101]⟩] rfl (by decide) hs)
     replace HQ:=Lib.hid ((ite_yes hs).symm.trans HQ.out)
     clear HX23 hs
     go_wp2_with (fail)
     refine HT.out.mono ?_
     rintro e w24 ⟨rfl,HX24⟩
     clear HT
     replace HQ:Hid ((if sees E i [[97,99,116,105,118,101]] then (if sees E (i + 1) [[91]] then (expr E f 0 (i + 2)).bd fun a k=>(need E [93] k).bd fun _ m=>R.ok (true,a) m else R.ok (true,Ast.num 1) (i + 1)) else R.ok (false,Ast.zero) i).bd (procTl E f t.at_)=Rr):=HQ.out
     go_wp2_with (refine wpList_store1 rfl 3 _ _ rfl (w.heap.size) 0 (.int .i64 4) rfl rfl HX24.out.box (Nat.le_of_ble_eq_true rfl) sz_int rfl rfl ?_)
     refine Named.mk (fun w25 hW=>?_)
     have HX25:=Lib.hid (HX24.out.store hW (Nat.le_of_ble_eq_true rfl))
     clear hW HX24
     obtain ⟨q2,hq2⟩:∃ b:Bool,sees E i [[97,99,116,105,118,101]]=b:=⟨_,rfl⟩
     have Hq2:=Lib.hid hq2
     have HT:=Lib.hid (HX25.out.takes [[97,99,116,105,118,101]] #[.string ⟨#[97,99,116,105,118,101]⟩] rfl (by decide) q2 hq2)
     clear HX25 hq2
     go_wp2_with (fail)
     refine HT.out.mono ?_
     rintro e w26 ⟨rfl,HX26⟩
     clear HT
     have hQ:=HQ.out
     rw [Hq2.out] at hQ
     replace HQ:=Lib.hid hQ
     clear hQ
     go_wp2_with (refine wpList_store1 rfl 4 _ _ rfl (w.heap.size) 5 (.bool q2) rfl rfl HX26.out.box (Nat.le_of_ble_eq_true rfl) sz_bool rfl rfl ?_)
     refine Named.mk (fun w27 hW=>?_)
     have HX27:=Lib.hid (HX26.out.store hW (Nat.le_of_ble_eq_true rfl))
     clear hW HX26
     have hl5:w27.cell? ⟨w.heap.size,5,none⟩=some (.bool q2):=HX27.out.box.cell 5
     go_upto_if 65 with (fail)
     clear hl5
     go_cut [] (fun wx=>∃ (x:Ast) (j:Nat) (xa1:Option Addr) (xn1 xc1:Nat) (xa2:Option Addr) (xn2 xc2:Nat) (xa3:Option Addr) (xn3 xc3:Nat) (xa4:Option Addr) (xn4 xc4:Nat) (xa5:Option Addr) (xn5 xc5:Nat),Hid (procTl E f t.at_ (q2,x) j=Rr)∧Hid (AstF (From (w.heap.size + 1)) wx x (.slice xa1 xn1 xc1) (.slice xa2 xn2 xc2) (.slice xa3 xn3 xc3) (.slice xa4 xn4 xc4) (.slice xa5 xn5 xc5))∧Hid (Cx w p vl E w.heap.size 54 (fun _=>True) wx j [.int .i64 4,.int .i64 (t.at_:Int),.string ⟨#[]⟩,.string ⟨#[]⟩,.slice none 0 0,.bool q2,.int .i64 (x.kind:Int),.int .i64 x.n,.string ⟨x.name.toArray⟩,.string ⟨x.label.toArray⟩,.slice xa1 xn1 xc1,.slice xa2 xn2 xc2,.slice xa3 xn3 xc3,.slice xa4 xn4 xc4,.slice xa5 xn5 xc5,.int .i64 0,.string ⟨#[]⟩,.slice none 0 0,.int .i64 0,.slice none 0 0,.slice none 0 0]))
     case first=>
      cases q2 with
      | true=>
       replace HX27:Hid (Cx w p vl E w.heap.size 54 (fun _=>True) w27 (i + 1) _):=HX27.out
       replace HQ:=Lib.hid ((bite_yes rfl).symm.trans HQ.out)
       go_wp2_with (refine wpList_storeB rfl 41 _ _ rfl (w.heap.size) 6 [.int .i64 1,.int .i64 1,.string ⟨#[]⟩,.string ⟨#[]⟩,.slice none 0 0,.slice none 0 0,.slice none 0 0,.slice none 0 0,.slice none 0 0] rfl rfl HX27.out.box (Nat.le_of_ble_eq_true rfl) sz_Ast (by simp [Value.oneCell']) ?_)
       refine Named.mk (fun w28 hW=>?_)
       have HX28:=Lib.hid (HX27.out.store hW (Nat.le_of_ble_eq_true rfl))
       clear hW HX27
       obtain hs | hs:=tf (sees E (i + 1) [[91]])
       ·have HT:=Lib.hid (HX28.out.takesY [[91]] #[.string ⟨#[91]⟩] rfl (by decide) hs)
        replace HQ:=Lib.hid ((bite_yes hs).symm.trans HQ.out)
        clear HX28 hs
        go_wp2_with (fail)
        refine HT.out.mono ?_
        rintro e w29 ⟨rfl,HX29⟩
        clear HT
        have hszP:=HX29.out.low
        replace HQ:=Lib.hid ((bd_bd _ _ _).symm.trans HQ.out)
        have HC:=Lib.hid (HX29.out.part ((exprOk E f).expr (lvl:=0) HX29.out.par (by omega) (bd_ne HQ.out HNE.out)) HQ.out)
        clear HQ HX29 
        go_wp2_with (fail)
        refine HC.out _ (fun c a wz h hF=>⟨rfl,HB.out c a wz h hF⟩) ?_
        rintro e j3 v w30 hr HQ hv HX30
        clear hr HC
        obtain ⟨vn,vi,vh,vk,va,rfl,hv⟩:=hv
        obtain ⟨ea1,en1,ec1,ea2,en2,ec2,ea3,en3,ec3,ea4,en4,ec4,ea5,en5,ec5,rfl,rfl,rfl,rfl,rfl⟩:=hv.forms
        unfold Ast.val
        replace HX30:=Lib.hid (HX30.out.and (V:=fun W=>AstF (From w29.heap.size) W e (.slice ea1 en1 ec1) (.slice ea2 en2 ec2) (.slice ea3 en3 ec3) (.slice ea4 en4 ec4) (.slice ea5 en5 ec5)) hv (fun k h=>h.up (k.keep (by show ¬ _;omega) (by show ¬ _;omega))))
        clear hv
        go_wp2_with (refine wpList_storeB rfl 41 _ _ rfl (w.heap.size) 6 [.int .i64 (e.kind:Int),.int .i64 e.n,.string ⟨e.name.toArray⟩,.string ⟨e.label.toArray⟩,.slice ea1 en1 ec1,.slice ea2 en2 ec2,.slice ea3 en3 ec3,.slice ea4 en4 ec4,.slice ea5 en5 ec5] rfl rfl HX30.out.box (Nat.le_of_ble_eq_true rfl) sz_Ast (by simp [Value.oneCell']) ?_)
        refine Named.mk (fun w31 hW=>?_)
        have HX31:=Lib.hid (HX30.out.store hW (Nat.le_of_ble_eq_true rfl))
        clear hW HX30
        replace HQ:=Lib.hid ((bd_bd _ _ _).symm.trans HQ.out)
        have HC:=Lib.hid (HX31.out.part (needFn HX31.out.par [93]) HQ.out)
        clear HQ HX31 
        go_wp2_with (fail)
        refine HC.out _ (fun c a wz h hF=>⟨rfl,HB.out c a wz h hF⟩) ?_
        rintro u j4 v w32 hr HQ hv HX32
        clear hr HC
        obtain rfl:=hv
        replace HQ:=Lib.hid (bd_ok.symm.trans HQ.out)
        go_wp2_with (fail)
        go_meet
        case rel=>exact ⟨_,_,_,_,_,_,_,_,_,_,_,_,_,_,_,_,_,HQ,Lib.hid (HX32.out.q.2.mono (Wide.from hszP)),Lib.hid HX32.out.forget⟩
       have HT:=Lib.hid (HX28.out.takesN [[91]] #[.string ⟨#[91]⟩] rfl (by decide) hs)
       replace HQ:=Lib.hid ((bite_no hs).symm.trans HQ.out)
       clear HX28 hs
       go_wp2_with (fail)
       refine HT.out.mono ?_
       rintro e w33 ⟨rfl,HX33⟩
       clear HT
       replace HQ:=Lib.hid (bd_ok.symm.trans HQ.out)
       go_wp2_with (fail)
       go_meet
       case rel=>exact ⟨Ast.num 1,_,_,_,_,_,_,_,_,_,_,_,_,_,_,_,_,HQ,Lib.hid (show AstF _ _ (Ast.num 1) _ _ _ _ _ from by unfold Ast.num;exact AstF.nils),Lib.hid HX33.out.forget⟩
      | false=>
       replace HX27:Hid (Cx w p vl E w.heap.size 54 (fun _=>True) w27 i _):=HX27.out
       replace HQ:=Lib.hid (bd_ok.symm.trans ((bite_no rfl).symm.trans HQ.out))
       go_wp2_with (fail)
       go_meet
       case rel=>exact ⟨Ast.zero,_,_,_,_,_,_,_,_,_,_,_,_,_,_,_,_,HQ,Lib.hid AstF.zero,Lib.hid HX27.out.forget⟩
     case rest=>
      clear HX27 HQ
      obtain ⟨x,j5,xa1,xn1,xc1,xa2,xn2,xc2,xa3,xn3,xc3,xa4,xn4,xc4,xa5,xn5,xc5,HQ,HA,HX34⟩:=hcut
      replace HX34:=Lib.hid (HX34.out.and (V:=fun W=>AstF (From (w.heap.size + 1)) W x (.slice xa1 xn1 xc1) (.slice xa2 xn2 xc2) (.slice xa3 xn3 xc3) (.slice xa4 xn4 xc4) (.slice xa5 xn5 xc5)) HA.out (fun k h=>h.up (k.keep (by show ¬ _;omega) (by show ¬ _;omega))))
      clear HA
      replace HQ:=Lib.hid (show (need E [112,114,111,99,116,121,112,101] j5).bd _=Rr from HQ.out)
      have HC:=Lib.hid (HX34.out.part (needFn HX34.out.par [112,114,111,99,116,121,112,101]) HQ.out)
      clear HQ HX34 
      go_wp2_with (fail)
      refine HC.out _ (fun c a wz h hF=>⟨rfl,HB.out c a wz h hF⟩) ?_
      rintro u j6 v w35 hr HQ hv HX35
      clear hr HC
      obtain rfl:=hv
      have HC:=Lib.hid (HX35.out.part (idFn HX35.out.par) HQ.out)
      clear HQ HX35 
      go_wp2_with (fail)
      refine HC.out _ (fun c a wz h hF=>⟨rfl,HB.out c a wz h hF⟩) ?_
      rintro s j6b v w36 hr HQ hv HX36
      clear hr HC
      obtain rfl:=hv
      go_wp2_with (refine wpList_store1 rfl 9 _ _ rfl (w.heap.size) 2 (.string ⟨s.toArray⟩) rfl rfl HX36.out.box (Nat.le_of_ble_eq_true rfl) sz_string rfl rfl ?_)
      refine Named.mk (fun w37 hW=>?_)
      have HX37:=Lib.hid (HX36.out.store hW (Nat.le_of_ble_eq_true rfl))
      clear hW HX36
      have HC:=Lib.hid (HX37.out.part (needFn HX37.out.par [40]) HQ.out)
      clear HQ HX37 
      go_wp2_with (fail)
      refine HC.out _ (fun c a wz h hF=>⟨rfl,HB.out c a wz h hF⟩) ?_
      rintro u j7 v w38 hr HQ hv HX38
      clear hr HC
      obtain rfl:=hv
      obtain hs | hs:=tf (sees E j7 [[41]])
      ·have HT:=Lib.hid (HX38.out.see0 [[41]] #[.string ⟨#[41]⟩] rfl (by decide) hs)
       replace HQ:=Lib.hid ((bite_yes hs).symm.trans HQ.out)
       clear HX38 hs
       go_wp2_with (fail)
       refine HT.out.mono ?_
       rintro e w39 ⟨rfl,HX39⟩
       clear HT
       replace HQ:=Lib.hid (bd_ok.symm.trans HQ.out)
       have HC:=Lib.hid (HX39.out.part (needFn HX39.out.par [41]) HQ.out)
       clear HQ HX39 
       go_wp2_with (fail)
       refine HC.out _ (fun c a wz h hF=>⟨rfl,HB.out c a wz h hF⟩) ?_
       rintro u j8 v w40 hr HQ hv HX40
       clear hr HC
       obtain rfl:=hv
       have hszB:=HX40.out.low
       have HC:=Lib.hid (HX40.out.part (HIH.out.body HX40.out.par (bd_ne HQ.out HNE.out)) HQ.out)
       clear HQ HX40 
       go_wp2_with (fail)
       refine HC.out _ (fun c a wz h hF=>⟨rfl,HB.out c a wz h hF⟩) ?_
       rintro b j9 v w41 hr HQ hv HX41
       clear hr HC
       obtain ⟨fa,fc,rfl⟩:=hv.form
       replace HX41:=Lib.hid (HX41.out.and (V:=fun W=>StmsV (From w40.heap.size) W (.slice fa b.length fc) b) hv (fun k h=>h.up (k.keep (by show ¬ _;omega) (by show ¬ _;omega))))
       clear hv
       go_wp2_with (refine wpList_store1 rfl 52 _ _ rfl (w.heap.size) 20 (.slice fa b.length fc) rfl rfl HX41.out.box (Nat.le_of_ble_eq_true rfl) sz_Stms rfl rfl ?_)
       refine Named.mk (fun w42 hW=>?_)
       have HX42:=Lib.hid (HX41.out.store hW (Nat.le_of_ble_eq_true rfl))
       clear hW HX41
       go_wp2_with (fail)
       go_meet
       case rel=>exact ⟨_,_,_,HQ,Lib.hid (UntF.of (RowL.nil _ _ _) HX42.out.q.1.2 DvsV.nil DclsV.nil (HX42.out.q.2.mono (Wide.from hszB))),Lib.hid HX42.out.forget⟩
      have HT:=Lib.hid (HX38.out.see0 [[41]] #[.string ⟨#[41]⟩] rfl (by decide) hs)
      replace HQ:=Lib.hid ((bite_no hs).symm.trans HQ.out)
      clear HX38 hs
      go_wp2_with (fail)
      refine HT.out.mono ?_
      rintro e w43 ⟨rfl,HX43⟩
      clear HT
      have hszP:=HX43.out.low
      have HC:=Lib.hid (HX43.out.part (declsFn [41] HX43.out.par (bd_ne HQ.out HNE.out)) HQ.out)
      clear HQ HX43 
      go_wp2_with (fail)
      refine HC.out _ (fun c a wz h hF=>⟨rfl,HB.out c a wz h hF⟩) ?_
      rintro l j8 v w44 hr HQ hv HX44
      clear hr HC
      obtain ⟨ff,hr,hf⟩:=hv
      obtain ⟨da,dc,hvf,_⟩:=hr.form
      subst hvf
      replace HX44:=Lib.hid (HX44.out.and (V:=fun W=>DclsV (From w43.heap.size) W (.slice da l.length dc) l) ⟨ff,hr,hf⟩ (fun k h=>h.up (k.keep (by show ¬ _;omega) (by show ¬ _;omega))))
      clear hr hf
      go_wp2_with (refine wpList_store1 rfl 51 _ _ rfl (w.heap.size) 19 (.slice da l.length dc) rfl rfl HX44.out.box (Nat.le_of_ble_eq_true rfl) sz_Dcls rfl rfl ?_)
      refine Named.mk (fun w45 hW=>?_)
      have HX45:=Lib.hid (HX44.out.store hW (Nat.le_of_ble_eq_true rfl))
      clear hW HX44
      have HC:=Lib.hid (HX45.out.part (needFn HX45.out.par [41]) HQ.out)
      clear HQ HX45 
      go_wp2_with (fail)
      refine HC.out _ (fun c a wz h hF=>⟨rfl,HB.out c a wz h hF⟩) ?_
      rintro u j9 v w46 hr HQ hv HX46
      clear hr HC
      obtain rfl:=hv
      have hszB:=HX46.out.low
      have HC:=Lib.hid (HX46.out.part (HIH.out.body HX46.out.par (bd_ne HQ.out HNE.out)) HQ.out)
      clear HQ HX46 
      go_wp2_with (fail)
      refine HC.out _ (fun c a wz h hF=>⟨rfl,HB.out c a wz h hF⟩) ?_
      rintro b j10 v w47 hr HQ hv HX47
      clear hr HC
      obtain ⟨fa,fc,rfl⟩:=hv.form
      replace HX47:=Lib.hid (HX47.out.and (V:=fun W=>StmsV (From w46.heap.size) W (.slice fa b.length fc) b) hv (fun k h=>h.up (k.keep (by show ¬ _;omega) (by show ¬ _;omega))))
      clear hv
      go_wp2_with (refine wpList_store1 rfl 52 _ _ rfl (w.heap.size) 20 (.slice fa b.length fc) rfl rfl HX47.out.box (Nat.le_of_ble_eq_true rfl) sz_Stms rfl rfl ?_)
      refine Named.mk (fun w48 hW=>?_)
      have HX48:=Lib.hid (HX47.out.store hW (Nat.le_of_ble_eq_true rfl))
      clear hW HX47
      go_wp2_with (fail)
      go_meet
      case rel=>exact ⟨_,_,_,HQ,Lib.hid (UntF.of (RowL.nil _ _ _) HX48.out.q.1.1.2 DvsV.nil (HX48.out.q.1.2.mono (Wide.from hszP)) (HX48.out.q.2.mono (Wide.from hszB))),Lib.hid HX48.out.forget⟩
    have HT:=Lib.hid (HX23.out.see0 [[97,99,116,105,118,101],[112,114,111,99,116,121,112,101]] #[.string ⟨#[97,99,116,105,118,101]⟩,.string ⟨#[112,114,111,99,116,121,112,101]⟩] rfl (by decide) hs)
    replace HQ:=Lib.hid ((ite_no hs).symm.trans HQ.out)
    clear HX23 hs
    go_wp2_with (fail)
    refine HT.out.mono ?_
    rintro e w49 ⟨rfl,HX49⟩
    clear HT
    obtain hs | hs:=tf (sees E i [[105,110,105,116]])
    ·have HT:=Lib.hid (HX49.out.takesY [[105,110,105,116]] #[.string ⟨#[105,110,105,116]⟩] rfl (by decide) hs)
     replace HQ:=Lib.hid ((ite_yes hs).symm.trans HQ.out)
     clear HX49 hs
     go_wp2_with (fail)
     refine HT.out.mono ?_
     rintro e w50 ⟨rfl,HX50⟩
     clear HT
     have hszB:=HX50.out.low
     have HC:=Lib.hid (HX50.out.part (HIH.out.body HX50.out.par (bd_ne HQ.out HNE.out)) HQ.out)
     clear HQ HX50 
     go_wp2_with (fail)
     refine HC.out _ (fun c a wz h hF=>⟨rfl,HB.out c a wz h hF⟩) ?_
     rintro b j2 v w51 hr HQ hv HX51
     clear hr HC
     obtain ⟨fa,fc,rfl⟩:=hv.form
     replace HX51:=Lib.hid (HX51.out.and (V:=fun W=>StmsV (From w50.heap.size) W (.slice fa b.length fc) b) hv (fun k h=>h.up (k.keep (by show ¬ _;omega) (by show ¬ _;omega))))
     clear hv
     go_wp2_with (refine wpList_store1 rfl 3 _ _ rfl (w.heap.size) 0 (.int .i64 5) rfl rfl HX51.out.box (Nat.le_of_ble_eq_true rfl) sz_int rfl rfl ?_)
     refine Named.mk (fun w52 hW=>?_)
     have HX52:=Lib.hid (HX51.out.store hW (Nat.le_of_ble_eq_true rfl))
     clear hW HX51
     go_wp2_with (refine wpList_store1 rfl 52 _ _ rfl (w.heap.size) 20 (.slice fa b.length fc) rfl rfl HX52.out.box (Nat.le_of_ble_eq_true rfl) sz_Stms rfl rfl ?_)
     refine Named.mk (fun w53 hW=>?_)
     have HX53:=Lib.hid (HX52.out.store hW (Nat.le_of_ble_eq_true rfl))
     clear hW HX52
     go_wp2_with (fail)
     go_meet
     case rel=>exact ⟨_,_,_,HQ,Lib.hid (UntF.of (RowL.nil _ _ _) AstF.zero DvsV.nil DclsV.nil (HX53.out.q.2.mono (Wide.from hszB))),Lib.hid HX53.out.forget⟩
    have HT:=Lib.hid (HX49.out.takesN [[105,110,105,116]] #[.string ⟨#[105,110,105,116]⟩] rfl (by decide) hs)
    replace HQ:=Lib.hid ((ite_no hs).symm.trans HQ.out)
    clear HX49 hs
    go_wp2_with (fail)
    refine HT.out.mono ?_
    rintro e w54 ⟨rfl,HX54⟩
    clear HT
    obtain hs | hs:=tf (sees E i [[110,101,118,101,114]])
    ·have HT:=Lib.hid (HX54.out.takesY [[110,101,118,101,114]] #[.string ⟨#[110,101,118,101,114]⟩] rfl (by decide) hs)
     replace HQ:=Lib.hid ((ite_yes hs).symm.trans HQ.out)
     clear HX54 hs
     go_wp2_with (fail)
     refine HT.out.mono ?_
     rintro e w55 ⟨rfl,HX55⟩
     clear HT
     have hszB:=HX55.out.low
     have HC:=Lib.hid (HX55.out.part (HIH.out.body HX55.out.par (bd_ne HQ.out HNE.out)) HQ.out)
     clear HQ HX55 
     go_wp2_with (fail)
     refine HC.out _ (fun c a wz h hF=>⟨rfl,HB.out c a wz h hF⟩) ?_
     rintro b j2 v w56 hr HQ hv HX56
     clear hr HC
     obtain ⟨fa,fc,rfl⟩:=hv.form
     replace HX56:=Lib.hid (HX56.out.and (V:=fun W=>StmsV (From w55.heap.size) W (.slice fa b.length fc) b) hv (fun k h=>h.up (k.keep (by show ¬ _;omega) (by show ¬ _;omega))))
     clear hv
     go_wp2_with (refine wpList_store1 rfl 3 _ _ rfl (w.heap.size) 0 (.int .i64 6) rfl rfl HX56.out.box (Nat.le_of_ble_eq_true rfl) sz_int rfl rfl ?_)
     refine Named.mk (fun w57 hW=>?_)
     have HX57:=Lib.hid (HX56.out.store hW (Nat.le_of_ble_eq_true rfl))
     clear hW HX56
     go_wp2_with (refine wpList_store1 rfl 52 _ _ rfl (w.heap.size) 20 (.slice fa b.length fc) rfl rfl HX57.out.box (Nat.le_of_ble_eq_true rfl) sz_Stms rfl rfl ?_)
     refine Named.mk (fun w58 hW=>?_)
     have HX58:=Lib.hid (HX57.out.store hW (Nat.le_of_ble_eq_true rfl))
     clear hW HX57
     go_wp2_with (fail)
     go_meet
     case rel=>exact ⟨_,_,_,HQ,Lib.hid (UntF.of (RowL.nil _ _ _) AstF.zero DvsV.nil DclsV.nil (HX58.out.q.2.mono (Wide.from hszB))),Lib.hid HX58.out.forget⟩
    have HT:=Lib.hid (HX54.out.takesN [[110,101,118,101,114]] #[.string ⟨#[110,101,118,101,114]⟩] rfl (by decide) hs)
    replace HQ:=Lib.hid ((ite_no hs).symm.trans HQ.out)
    clear HX54 hs
    go_wp2_with (fail)
    refine HT.out.mono ?_
    rintro e w59 ⟨rfl,HX59⟩
    clear HT
    obtain hs | hs:=tf (sees E i [[105,110,108,105,110,101]])
    ·have HT:=Lib.hid (HX59.out.takesY [[105,110,108,105,110,101]] #[.string ⟨#[105,110,108,105,110,101]⟩] rfl (by decide) hs)
     replace HQ:=Lib.hid ((ite_yes hs).symm.trans HQ.out)
     clear HX59 hs
     go_wp2_with (fail)
     refine HT.out.mono ?_
     rintro e w60 ⟨rfl,HX60⟩
     clear HT
     have HC:=Lib.hid (HX60.out.part (idFn HX60.out.par) HQ.out)
     clear HQ HX60 
     go_wp2_with (fail)
     refine HC.out _ (fun c a wz h hF=>⟨rfl,HB.out c a wz h hF⟩) ?_
     rintro s j2 v w61 hr HQ hv HX61
     clear hr HC
     obtain rfl:=hv
     go_wp2_with (refine wpList_store1 rfl 3 _ _ rfl (w.heap.size) 0 (.int .i64 7) rfl rfl HX61.out.box (Nat.le_of_ble_eq_true rfl) sz_int rfl rfl ?_)
     refine Named.mk (fun w62 hW=>?_)
     have HX62:=Lib.hid (HX61.out.store hW (Nat.le_of_ble_eq_true rfl))
     clear hW HX61
     go_wp2_with (refine wpList_store1 rfl 9 _ _ rfl (w.heap.size) 2 (.string ⟨s.toArray⟩) rfl rfl HX62.out.box (Nat.le_of_ble_eq_true rfl) sz_string rfl rfl ?_)
     refine Named.mk (fun w63 hW=>?_)
     have HX63:=Lib.hid (HX62.out.store hW (Nat.le_of_ble_eq_true rfl))
     clear hW HX62
     have hszP:=HX63.out.low
     have HC:=Lib.hid (HX63.out.part (withinStrFn f (pid E) _ _ _ HX63.out.par oneId (fun i a k h=>Nat.le_of_lt (pid_adv i a k h).1) (bd_ne HQ.out HNE.out)) HQ.out)
     clear HQ HX63 
     go_wp2_with (fail)
     refine HC.out _ (fun c a wz h hF=>⟨rfl,HB.out c a wz h hF⟩) ?_
     rintro l j3 v w64 hr HQ hv HX64
     clear hr HC
     obtain ⟨ff,hr,hf⟩:=hv
     obtain ⟨na,nc,hvf,_⟩:=hr.form
     subst hvf
     replace HX64:=Lib.hid (HX64.out.and (V:=fun W=>StrsE (From w63.heap.size) W (.slice na l.length nc) l) ⟨ff,hr,hf⟩ (fun k h=>h.up (k.keep (by show ¬ _;omega) (by show ¬ _;omega))))
     clear hr hf
     go_wp2_with (refine wpList_store1 rfl 34 _ _ rfl (w.heap.size) 4 (.slice na l.length nc) rfl rfl HX64.out.box (Nat.le_of_ble_eq_true rfl) sz_Strs rfl rfl ?_)
     refine Named.mk (fun w65 hW=>?_)
     have HX65:=Lib.hid (HX64.out.store hW (Nat.le_of_ble_eq_true rfl))
     clear hW HX64
     have hszB:=HX65.out.low
     have HC:=Lib.hid (HX65.out.part (HIH.out.body HX65.out.par (bd_ne HQ.out HNE.out)) HQ.out)
     clear HQ HX65 
     go_wp2_with (fail)
     refine HC.out _ (fun c a wz h hF=>⟨rfl,HB.out c a wz h hF⟩) ?_
     rintro b j4 v w66 hr HQ hv HX66
     clear hr HC
     obtain ⟨fa,fc,rfl⟩:=hv.form
     replace HX66:=Lib.hid (HX66.out.and (V:=fun W=>StmsV (From w65.heap.size) W (.slice fa b.length fc) b) hv (fun k h=>h.up (k.keep (by show ¬ _;omega) (by show ¬ _;omega))))
     clear hv
     go_wp2_with (refine wpList_store1 rfl 52 _ _ rfl (w.heap.size) 20 (.slice fa b.length fc) rfl rfl HX66.out.box (Nat.le_of_ble_eq_true rfl) sz_Stms rfl rfl ?_)
     refine Named.mk (fun w67 hW=>?_)
     have HX67:=Lib.hid (HX66.out.store hW (Nat.le_of_ble_eq_true rfl))
     clear hW HX66
     go_wp2_with (fail)
     go_meet
     case rel=>exact ⟨_,_,_,HQ,Lib.hid (UntF.of (StrsE.row (HX67.out.q.1.2.mono (Wide.from hszP))) AstF.zero DvsV.nil DclsV.nil (HX67.out.q.2.mono (Wide.from hszB))),Lib.hid HX67.out.forget⟩
    have HT:=Lib.hid (HX59.out.takesN [[105,110,108,105,110,101]] #[.string ⟨#[105,110,108,105,110,101]⟩] rfl (by decide) hs)
    replace HQ:=Lib.hid ((ite_no hs).symm.trans HQ.out)
    clear HX59 hs
    go_wp2_with (fail)
    refine HT.out.mono ?_
    rintro e w68 ⟨rfl,HX68⟩
    clear HT
    obtain hs | hs:=tf (sees E i [[108,116,108]])
    ·have HT:=Lib.hid (HX68.out.takesY [[108,116,108]] #[.string ⟨#[108,116,108]⟩] rfl (by decide) hs)
     replace HQ:=Lib.hid ((ite_yes hs).symm.trans HQ.out)
     clear HX68 hs
     go_wp2_with (fail)
     refine HT.out.mono ?_
     rintro e w69 ⟨rfl,HX69⟩
     clear HT
     have HC:=Lib.hid (ltlFn HO.out (f:=f) (a0:=t.at_) (show Cx w p vl E w.heap.size 54 _ _ _ [.int .i64 0,.int .i64 (t.at_:Int),.string ⟨#[]⟩,.string ⟨#[]⟩,.slice none 0 0,.bool false,.int .i64 0,.int .i64 0,.string ⟨#[]⟩,.string ⟨#[]⟩,.slice none 0 0,.slice none 0 0,.slice none 0 0,.slice none 0 0,.slice none 0 0,.int .i64 0,.string ⟨#[]⟩,.slice none 0 0,.int .i64 0,.slice none 0 0,.slice none 0 0] from HX69.out) (by intro h;exact HNE.out (HQ.out.symm.trans h)))
     clear HX69
     go_wp2_with (fail)
     cases h1:ltlP E f t.at_ (i + 1) with
     | out=>exact absurd (HQ.out.symm.trans h1) HNE.out
     | bad c a=>
      have HC':=HC.out
      rw [h1] at HC'
      refine HC'.mono ?_
      rintro e wz ⟨rfl,hF⟩
      exact ⟨rfl,HB.out c a wz (HQ.out.symm.trans h1) hF⟩
     | ok s j=>
      have HC':=HC.out
      rw [h1] at HC'
      replace HQ:Hid (R.ok s j=Rr):=h1.symm.trans HQ.out
      refine HC'.mono ?_
      rintro e w70 ⟨rfl,cs,HXx,hS⟩
      have HS:=Lib.hid hS
      clear hS HC' HC h1
      go_wp2_with (fail)
      go_meet
      case rel=>exact ⟨_,_,_,HQ,HS,HXx⟩
    have HT:=Lib.hid (HX68.out.takesN [[108,116,108]] #[.string ⟨#[108,116,108]⟩] rfl (by decide) hs)
    replace HQ:=Lib.hid ((ite_no hs).symm.trans HQ.out)
    clear HX68 hs
    go_wp2_with (fail)
    refine HT.out.mono ?_
    rintro e w71 ⟨rfl,HX71⟩
    clear HT
    have hszP:=HX71.out.low
    have HC:=Lib.hid (HX71.out.part (declFn HX71.out.par (bd_ne HQ.out HNE.out)) HQ.out)
    clear HQ HX71 
    go_wp2_with (fail)
    refine HC.out _ (fun c a wz h hF=>⟨rfl,HB.out c a wz h hF⟩) ?_
    rintro x j2 v w72 hr HQ hv HX72
    clear hr HC
    obtain ⟨cc,rfl,vv,rfl,ff,hr,hf⟩:=hv
    obtain ⟨za,zc,hvf,_⟩:=hr.form
    subst hvf
    replace HX72:=Lib.hid (HX72.out.and (V:=fun W=>DvsV (From w71.heap.size) W (.slice za x.vars.length zc) x.vars) ⟨ff,hr,hf⟩ (fun k h=>h.up (k.keep (by show ¬ _;omega) (by show ¬ _;omega))))
    clear hr hf
    go_wp2_with (refine wpList_store1 rfl 3 _ _ rfl (w.heap.size) 0 (.int .i64 2) rfl rfl HX72.out.box (Nat.le_of_ble_eq_true rfl) sz_int rfl rfl ?_)
    refine Named.mk (fun w73 hW=>?_)
    have HX73:=Lib.hid (HX72.out.store hW (Nat.le_of_ble_eq_true rfl))
    clear hW HX72
    go_wp2_with (refine wpList_storeB rfl 50 _ _ rfl (w.heap.size) 15 [.int .i64 x.type,.string ⟨x.named.toArray⟩,.slice za x.vars.length zc,.int .i64 (x.at_:Int)] rfl rfl HX73.out.box (Nat.le_of_ble_eq_true rfl) sz_Dcl (by simp [Value.oneCell']) ?_)
    refine Named.mk (fun w74 hW=>?_)
    have HX74:=Lib.hid (HX73.out.store hW (Nat.le_of_ble_eq_true rfl))
    clear hW HX73
    go_wp2_with (fail)
    go_meet
    case rel=>exact ⟨_,_,_,HQ,Lib.hid (UntF.of (RowL.nil _ _ _) AstF.zero (HX74.out.q.2.mono (Wide.from hszP)) DclsV.nil stms_nil),Lib.hid HX74.out.forget⟩
 case rest=>
  clear HX2 HQ HIH
  obtain ⟨s,j,cs,HQ,HS,HXe⟩:=hcut
  obtain ⟨hl,ho⟩:=HS.out.one
  have hsz:(Tryz.prog.info? 54).map (·.size)=some cs.length:=by rw [hl];exact sz_Unt
  have HO1:=Lib.hid ho
  clear ho
  go_wp2_with (first | (refine wpList_load_mid rfl 54 _ rfl (w.heap.size) 0 rfl cs _ (HXe.out.box.range (n:=21) (by rw [List.drop_zero];exact List.take_of_length_le (by omega))) Tryz.underlying54 rfl hsz ?_) | (refine wpList_storeB rfl 54 _ _ rfl (w.heap.size) 0 cs rfl rfl HXe.out.box (by omega) hsz HO1.out ?_))
  refine Named.mk (fun wf hWf=>?_)
  go_wp2
  have hh:=HXe.out.box.stored hWf (by omega)
  rw [List.take_zero,List.nil_append,List.drop_of_length_le (by omega),List.append_nil] at hh
  refine bodyPost_ret (outBox Tryz.results19 hh rfl _ Tryz.underlying54 rfl hsz) rfl ?_
  rw [← HQ.out,hWf]
  exact ⟨_,rfl,⟨cs,rfl,UntF.mono (Wide.from (Nat.le_succ _)) (UntF.up (Keep.setR (by show ¬ _;omega) _ _) HS.out)⟩,Par.setR (by omega) _ _ HXe.out.par,Fp.setR (Nat.le_refl _) _ _ HXe.out.fp⟩
end Go.Proofs.YtpoghableadkcaaGreatDoor
