/- The walk of stmt (printed by mkstmt.py). -/
import Derived.Test.YtpoghableadkcaaGreatDoorM15
import Derived.Deep.CutBlock
namespace Go.Proofs.YtpoghableadkcaaGreatDoor
open Go.RowKit
set_option linter.unusedVariables false
set_option linter.unusedSimpArgs false

theorem StmF.one {P:Nat→Prop} {w:World} {s:Stm} {cs:List Value} (h:StmF P w s cs):cs.length=28∧cs.all (·.oneCell')=true:=by
 cases s with
 | mk kind at_ name text n sorted random keep ref e es args decl opts body=>
  rw [StmF] at h
  obtain ⟨rn,ri,rh,en,ei,eh,ek,ea,ves,vas,dv,vo,vb,rfl,h2,h3,⟨f4,h4,_⟩,⟨f5,h5,_⟩,⟨f6,h6,_⟩,⟨f7,h7,_⟩,⟨f8,h8,_⟩⟩:=h
  obtain ⟨ra1,rn1,rc1,ra2,rn2,rc2,ra3,rn3,rc3,rfl,rfl,rfl⟩:=RfF.forms h2
  obtain ⟨ea1,en1,ec1,ea2,en2,ec2,ea3,en3,ec3,ea4,en4,ec4,ea5,en5,ec5,rfl,rfl,rfl,rfl,rfl⟩:=h3.forms
  obtain ⟨_,_,rfl,_⟩:=h4.form
  obtain ⟨_,_,rfl,_⟩:=h5.form
  obtain ⟨_,_,rfl,_⟩:=h6.form
  obtain ⟨_,_,rfl,_⟩:=h7.form
  obtain ⟨_,_,rfl,_⟩:=h8.form
  exact ⟨by simp [Ast.cells],by simp [Ast.cells,Value.oneCell']⟩
theorem StmsF.sing {P:Nat→Prop} {w:World} {s:Stm} {cs:List Value} (h:StmF P w s cs):StmsF P w [s] cs:=by
 rw [StmsF]
 exact ⟨cs,[],(List.append_nil cs).symm,h,by rw [StmsF]⟩

set_option maxHeartbeats 4000000 in
set_option maxRecDepth 1000000 in
theorem stmtFn {E:Env} {f:Nat} (ih:StmOk E f) {w:World} {p i:Nat} {vl:Value} (hP:Par w p vl E i) (hne:stmt E (f + 1) i ≠ .out):
  Calls Tryz.prog 159 #[.pointer (some ⟨p,0,none⟩)] w (Out p vl E w (StmV (From w.heap.size)) (stmt E (f + 1) i)):=by
 have hp1:=hP.lt
 obtain ⟨Rr,hRr⟩:∃ Rr,stmt E (f + 1) i=Rr:=⟨_,rfl⟩
 rw [hRr] at hne ⊢
 have HNE:=Lib.hid hne
 have HIH:=Lib.hid ih
 have hmf:∀ (fn:Fn) (first cap:Array Value) (w:World),(Instr.makeFunc fn first cap).run Tryz.prog w=.ok (.func fn first cap) w:=fun _ _ _ _=>rfl
 have hfd:=field_tok3
 have hfd1:=field_tok1
 obtain ⟨t,ht⟩:∃ t,tokAt E i=t:=⟨_,rfl⟩
 rw [stmt,placeAt_tok,ht] at hRr
 have HQ:=Lib.hid hRr
 have Ht:=Lib.hid ht
 have HX0:=Lib.hid (Cx.start hP 57 #[.int .i64 0,.int .i64 0,.string ⟨#[]⟩,.string ⟨#[]⟩,.int .i64 0,.bool false,.bool false,.bool false,.slice none 0 0,.slice none 0 0,.slice none 0 0,.int .i64 0,.int .i64 0,.string ⟨#[]⟩,.string ⟨#[]⟩,.slice none 0 0,.slice none 0 0,.slice none 0 0,.slice none 0 0,.slice none 0 0,.slice none 0 0,.slice none 0 0,.int .i64 0,.string ⟨#[]⟩,.slice none 0 0,.int .i64 0,.slice none 0 0,.slice none 0 0])
 have HB:Hid (∀ c a wz,Rr=.bad c a→Fp p w wz→Out p vl E w (StmV (From w.heap.size)) Rr (.panicked (badChain c a)) wz):=fun c a wz h hF=>by rw [h];exact ⟨rfl,hF⟩
 clear hne ih ht hP hRr
 go_enter Tryz.func159,Tryz.ntmps159
 have hT:=HX0.out.word Ht.out
 unfold tokV at hT
 have HT:=Lib.hid hT
 clear HX0 hT
 go_wp2_with (fail)
 refine HT.out.mono ?_
 rintro e w1 ⟨rfl,HX1⟩
 clear HT
 go_wp2_with (refine wpList_store1 rfl 3 _ _ rfl (w.heap.size) 1 (.int .i64 (t.at_:Int)) rfl rfl HX1.out.box (Nat.le_of_ble_eq_true rfl) sz_int rfl rfl ?_)
 refine Named.mk (fun w2 hW=>?_)
 have HX2:=Lib.hid (HX1.out.store hW (Nat.le_of_ble_eq_true rfl))
 clear hW HX1
 go_upto_block 0 with (fail)
 go_cut [] (fun wx=>∃ (s:Stm) (j:Nat) (cs:List Value),Hid (R.ok s j=Rr)∧Hid (StmF (From (w.heap.size + 1)) wx s cs)∧Hid (Cx w p vl E w.heap.size 57 (fun _=>True) wx j cs))
 case first=>
  go_upto_region 3 with (fail)
  go_cut [9] (fun sq wx=>∃ q:Bool,sq=.bool q∧Hid ((decide (kindAt E i=1) && sees E (i + 1) [[58]])=q)∧Hid (Cx w p vl E w.heap.size 57 (fun _=>True) wx i [.int .i64 0,.int .i64 (t.at_:Int),.string ⟨#[]⟩,.string ⟨#[]⟩,.int .i64 0,.bool false,.bool false,.bool false,.slice none 0 0,.slice none 0 0,.slice none 0 0,.int .i64 0,.int .i64 0,.string ⟨#[]⟩,.string ⟨#[]⟩,.slice none 0 0,.slice none 0 0,.slice none 0 0,.slice none 0 0,.slice none 0 0,.slice none 0 0,.slice none 0 0,.int .i64 0,.string ⟨#[]⟩,.slice none 0 0,.int .i64 0,.slice none 0 0,.slice none 0 0]))
  case first=>
   by_cases hk:kindAt E i=1
   ·have HT:=Lib.hid (HX2.out.is 1 (decide_eq_true hk))
    have HK:=Lib.hid hk
    clear HX2 hk
    go_wp2_with (fail)
    refine HT.out.mono ?_
    rintro e w3 ⟨rfl,HX3⟩
    clear HT
    obtain hs | hs:=tf (sees E (i + 1) [[58]])
    ·have HT:=Lib.hid (HX3.out.see1 [[58]] #[.string ⟨#[58]⟩] rfl (by decide) hs)
     have HS1:=Lib.hid hs
     clear HX3 hs
     go_wp2_with (fail)
     refine HT.out.mono ?_
     rintro e w4 ⟨rfl,HX4⟩
     clear HT
     go_wp2_with (fail)
     go_meet
     case rel=>exact ⟨true,rfl,by show _=_;rw [HS1.out,decide_eq_true HK.out];rfl,HX4⟩
    have HT:=Lib.hid (HX3.out.see1 [[58]] #[.string ⟨#[58]⟩] rfl (by decide) hs)
    have HS1:=Lib.hid hs
    clear HX3 hs
    go_wp2_with (fail)
    refine HT.out.mono ?_
    rintro e w5 ⟨rfl,HX5⟩
    clear HT
    go_wp2_with (fail)
    go_meet
    case rel=>exact ⟨false,rfl,by show _=_;rw [HS1.out,Bool.and_false],HX5⟩
   have HT:=Lib.hid (HX2.out.is 1 (decide_eq_false hk))
   have HK:=Lib.hid hk
   clear HX2 hk
   go_wp2_with (fail)
   refine HT.out.mono ?_
   rintro e w6 ⟨rfl,HX6⟩
   clear HT
   go_wp2_with (fail)
   go_meet
   case rel=>exact ⟨false,rfl,by show _=_;rw [decide_eq_false HK.out,Bool.false_and],HX6⟩
  case rest=>
   clear HX2
   obtain ⟨q,rfl,HQ1,HX7⟩:=hcut
   cases q with
   | true=>
    have hq1:=HQ1.out
    have hQ:=(ite_yes hq1).symm.trans HQ.out
    rw [Bool.and_eq_true,decide_eq_true_eq] at hq1
    obtain ⟨hk1,hs1⟩:=hq1
    have HLt:=Lib.hid (sees_lt hs1)
    replace HQ:Hid ((pid E i).bd (fun n j=>(stmt E f (j + 1)).bd fun s k=>R.ok (.bod 11 t.at_ n [s]) k)=Rr):=(pid_bd hk1 _).symm.trans hQ
    clear hs1 hk1 hQ
    have HC:=Lib.hid (HX7.out.part (idFn HX7.out.par) HQ.out)
    clear HQ HX7 
    go_wp2_with (fail)
    refine HC.out _ (fun c a wz h hF=>⟨rfl,HB.out c a wz h hF⟩) ?_
    rintro s j2 v w8 hr HQ hv HX8
    have HLT:Hid (j2 < E.L.length):=by have:=pid_pos hr;have:=HLt.out;show _ < _;omega
    clear hr HC
    obtain rfl:=hv
    go_wp2_with (refine wpList_store1 rfl 3 _ _ rfl (w.heap.size) 0 (.int .i64 11) rfl rfl HX8.out.box (Nat.le_of_ble_eq_true rfl) sz_int rfl rfl ?_)
    refine Named.mk (fun w9 hW=>?_)
    have HX9:=Lib.hid (HX8.out.store hW (Nat.le_of_ble_eq_true rfl))
    clear hW HX8
    go_wp2_with (refine wpList_store1 rfl 9 _ _ rfl (w.heap.size) 2 (.string ⟨s.toArray⟩) rfl rfl HX9.out.box (Nat.le_of_ble_eq_true rfl) sz_string rfl rfl ?_)
    refine Named.mk (fun w10 hW=>?_)
    have HX10:=Lib.hid (HX9.out.store hW (Nat.le_of_ble_eq_true rfl))
    clear hW HX9
    obtain ⟨c0,c1,c2,f2⟩:=HX10.out.par.cells
    have hj65:=HX10.out.few
    go_wp2_with (refine wpList_store1 rfl 3 _ _ rfl p 2 (.int .i64 ((j2:Int) + 1)) rfl rfl HX10.out.par.at_ (by simp) sz_int rfl rfl ?_)
    refine Named.mk (fun w11 hW=>?_)
    have HX11:=Lib.hid (HX10.out.set (j':=j2 + 1) HLT.out hW)
    clear hW c0 c1 c2 f2 hj65 HX10
    have hszP:=HX11.out.low
    have HC:=Lib.hid (HX11.out.part (HIH.out.stmt HX11.out.par (bd_ne HQ.out HNE.out)) HQ.out)
    clear HQ HX11 
    go_wp2_with (fail)
    refine HC.out _ (fun c a wz h hF=>⟨rfl,HB.out c a wz h hF⟩) ?_
    rintro x j3 v w12 hr HQ hv HX12
    clear hr HC
    obtain ⟨cs,rfl,hv⟩:=hv
    obtain ⟨hl28,ho28⟩:=hv.one
    have hszQ:=HX12.out.low
    have hVb:StmsV (From (w.heap.size + 1)) (w12.alloc (.cells cs.toArray 57)) (.slice (some ⟨w12.heap.size,0,none⟩) 1 1) [x]:=⟨cs,RowL.of_holds (Holds.new w12 57 cs.toArray) hszQ (by omega) (by simpa using hl28),StmsF.sing (StmF.up (Keep.below ((Below.refl _ _).alloc (Nat.le_refl _) _)) _ (StmF.mono (Wide.from hszP) _ hv))⟩
    replace HX12:=Lib.hid (HX12.out.alloc (.cells cs.toArray 57))
    replace HX12:=Lib.hid (HX12.out.and (V:=fun W=>StmsV (From (w.heap.size + 1)) W (.slice (some ⟨w12.heap.size,0,none⟩) 1 1) [x]) hVb (fun k h=>h.up (k.keep (by show ¬ _;omega) (by show ¬ _;omega))))
    clear hVb hv
    obtain ⟨i0,z0,hi0,hz0,hz1,_,_⟩:=info_of listStm_info
    go_wp2_with (first | (refine wpList_buildSlice1 (size:=28) rfl _ rfl Tryz.underlying52 hi0 hz0 hz1 (by omega) (by omega) cs rfl hl28 ?_) | (refine wpList_store1 rfl 52 _ _ rfl (w.heap.size) 27 (.slice (some ⟨w12.heap.size,0,none⟩) 1 1) rfl rfl HX12.out.box (Nat.le_of_ble_eq_true rfl) sz_Stms rfl rfl ?_))
    refine Named.mk (fun w13 hW=>?_)
    have HX13:=Lib.hid (HX12.out.store hW (Nat.le_of_ble_eq_true rfl))
    clear hW HX12
    clear hi0 hz0 hz1
    go_wp2_with (fail)
    go_meet
    case rel=>exact ⟨_,_,_,HQ,Lib.hid (StmF.of RfF.zero AstF.zero AstsV.nil ArgsV.nil DvsV.nil opts_nil HX13.out.q.2),Lib.hid HX13.out.forget⟩
   | false=>
    replace HQ:=Lib.hid ((ite_no HQ1.out).symm.trans HQ.out)
    obtain hs | hs:=tf (sees E i [[123]])
    ·have HT:=Lib.hid (HX7.out.see0 [[123]] #[.string ⟨#[123]⟩] rfl (by decide) hs)
     replace HQ:=Lib.hid ((ite_yes hs).symm.trans HQ.out)
     clear HX7 hs
     go_wp2_with (fail)
     refine HT.out.mono ?_
     rintro e w14 ⟨rfl,HX14⟩
     clear HT
     have hszP:=HX14.out.low
     have HC:=Lib.hid (HX14.out.part (HIH.out.body HX14.out.par (bd_ne HQ.out HNE.out)) HQ.out)
     clear HQ HX14 
     go_wp2_with (fail)
     refine HC.out _ (fun c a wz h hF=>⟨rfl,HB.out c a wz h hF⟩) ?_
     rintro l j2 v w15 hr HQ hv HX15
     clear hr HC
     obtain ⟨fa,fc,rfl⟩:=hv.form
     replace HX15:=Lib.hid (HX15.out.and (V:=fun W=>StmsV (From w14.heap.size) W (.slice fa l.length fc) l) hv (fun k h=>h.up (k.keep (by show ¬ _;omega) (by show ¬ _;omega))))
     clear hv
     go_wp2_with (refine wpList_store1 rfl 3 _ _ rfl (w.heap.size) 0 (.int .i64 14) rfl rfl HX15.out.box (Nat.le_of_ble_eq_true rfl) sz_int rfl rfl ?_)
     refine Named.mk (fun w16 hW=>?_)
     have HX16:=Lib.hid (HX15.out.store hW (Nat.le_of_ble_eq_true rfl))
     clear hW HX15
     go_wp2_with (refine wpList_store1 rfl 52 _ _ rfl (w.heap.size) 27 (.slice fa l.length fc) rfl rfl HX16.out.box (Nat.le_of_ble_eq_true rfl) sz_Stms rfl rfl ?_)
     refine Named.mk (fun w17 hW=>?_)
     have HX17:=Lib.hid (HX16.out.store hW (Nat.le_of_ble_eq_true rfl))
     clear hW HX16
     go_wp2_with (fail)
     go_meet
     case rel=>exact ⟨_,_,_,HQ,Lib.hid (StmF.of RfF.zero AstF.zero AstsV.nil ArgsV.nil DvsV.nil opts_nil (HX17.out.q.2.mono (Wide.from hszP))),Lib.hid HX17.out.forget⟩
    have HT:=Lib.hid (HX7.out.see0 [[123]] #[.string ⟨#[123]⟩] rfl (by decide) hs)
    replace HQ:=Lib.hid ((ite_no hs).symm.trans HQ.out)
    clear HX7 hs
    go_wp2_with (fail)
    refine HT.out.mono ?_
    rintro e w18 ⟨rfl,HX18⟩
    clear HT
    obtain hs | hs:=tf (sees E i [[97,116,111,109,105,99]])
    ·have HT:=Lib.hid (HX18.out.takesY [[97,116,111,109,105,99]] #[.string ⟨#[97,116,111,109,105,99]⟩] rfl (by decide) hs)
     replace HQ:=Lib.hid ((ite_yes hs).symm.trans HQ.out)
     clear HX18 hs
     go_wp2_with (fail)
     refine HT.out.mono ?_
     rintro e w19 ⟨rfl,HX19⟩
     clear HT
     have hszP:=HX19.out.low
     have HC:=Lib.hid (HX19.out.part (HIH.out.body HX19.out.par (bd_ne HQ.out HNE.out)) HQ.out)
     clear HQ HX19 
     go_wp2_with (fail)
     refine HC.out _ (fun c a wz h hF=>⟨rfl,HB.out c a wz h hF⟩) ?_
     rintro l j2 v w20 hr HQ hv HX20
     clear hr HC
     obtain ⟨fa,fc,rfl⟩:=hv.form
     replace HX20:=Lib.hid (HX20.out.and (V:=fun W=>StmsV (From w19.heap.size) W (.slice fa l.length fc) l) hv (fun k h=>h.up (k.keep (by show ¬ _;omega) (by show ¬ _;omega))))
     clear hv
     go_wp2_with (refine wpList_store1 rfl 3 _ _ rfl (w.heap.size) 0 (.int .i64 12) rfl rfl HX20.out.box (Nat.le_of_ble_eq_true rfl) sz_int rfl rfl ?_)
     refine Named.mk (fun w21 hW=>?_)
     have HX21:=Lib.hid (HX20.out.store hW (Nat.le_of_ble_eq_true rfl))
     clear hW HX20
     go_wp2_with (refine wpList_store1 rfl 52 _ _ rfl (w.heap.size) 27 (.slice fa l.length fc) rfl rfl HX21.out.box (Nat.le_of_ble_eq_true rfl) sz_Stms rfl rfl ?_)
     refine Named.mk (fun w22 hW=>?_)
     have HX22:=Lib.hid (HX21.out.store hW (Nat.le_of_ble_eq_true rfl))
     clear hW HX21
     go_wp2_with (fail)
     go_meet
     case rel=>exact ⟨_,_,_,HQ,Lib.hid (StmF.of RfF.zero AstF.zero AstsV.nil ArgsV.nil DvsV.nil opts_nil (HX22.out.q.2.mono (Wide.from hszP))),Lib.hid HX22.out.forget⟩
    have HT:=Lib.hid (HX18.out.takesN [[97,116,111,109,105,99]] #[.string ⟨#[97,116,111,109,105,99]⟩] rfl (by decide) hs)
    replace HQ:=Lib.hid ((ite_no hs).symm.trans HQ.out)
    clear HX18 hs
    go_wp2_with (fail)
    refine HT.out.mono ?_
    rintro e w23 ⟨rfl,HX23⟩
    clear HT
    obtain hs | hs:=tf (sees E i [[100,95,115,116,101,112]])
    ·have HT:=Lib.hid (HX23.out.takesY [[100,95,115,116,101,112]] #[.string ⟨#[100,95,115,116,101,112]⟩] rfl (by decide) hs)
     replace HQ:=Lib.hid ((ite_yes hs).symm.trans HQ.out)
     clear HX23 hs
     go_wp2_with (fail)
     refine HT.out.mono ?_
     rintro e w24 ⟨rfl,HX24⟩
     clear HT
     have hszP:=HX24.out.low
     have HC:=Lib.hid (HX24.out.part (HIH.out.body HX24.out.par (bd_ne HQ.out HNE.out)) HQ.out)
     clear HQ HX24 
     go_wp2_with (fail)
     refine HC.out _ (fun c a wz h hF=>⟨rfl,HB.out c a wz h hF⟩) ?_
     rintro l j2 v w25 hr HQ hv HX25
     clear hr HC
     obtain ⟨fa,fc,rfl⟩:=hv.form
     replace HX25:=Lib.hid (HX25.out.and (V:=fun W=>StmsV (From w24.heap.size) W (.slice fa l.length fc) l) hv (fun k h=>h.up (k.keep (by show ¬ _;omega) (by show ¬ _;omega))))
     clear hv
     go_wp2_with (refine wpList_store1 rfl 3 _ _ rfl (w.heap.size) 0 (.int .i64 13) rfl rfl HX25.out.box (Nat.le_of_ble_eq_true rfl) sz_int rfl rfl ?_)
     refine Named.mk (fun w26 hW=>?_)
     have HX26:=Lib.hid (HX25.out.store hW (Nat.le_of_ble_eq_true rfl))
     clear hW HX25
     go_wp2_with (refine wpList_store1 rfl 52 _ _ rfl (w.heap.size) 27 (.slice fa l.length fc) rfl rfl HX26.out.box (Nat.le_of_ble_eq_true rfl) sz_Stms rfl rfl ?_)
     refine Named.mk (fun w27 hW=>?_)
     have HX27:=Lib.hid (HX26.out.store hW (Nat.le_of_ble_eq_true rfl))
     clear hW HX26
     go_wp2_with (fail)
     go_meet
     case rel=>exact ⟨_,_,_,HQ,Lib.hid (StmF.of RfF.zero AstF.zero AstsV.nil ArgsV.nil DvsV.nil opts_nil (HX27.out.q.2.mono (Wide.from hszP))),Lib.hid HX27.out.forget⟩
    have HT:=Lib.hid (HX23.out.takesN [[100,95,115,116,101,112]] #[.string ⟨#[100,95,115,116,101,112]⟩] rfl (by decide) hs)
    replace HQ:=Lib.hid ((ite_no hs).symm.trans HQ.out)
    clear HX23 hs
    go_wp2_with (fail)
    refine HT.out.mono ?_
    rintro e w28 ⟨rfl,HX28⟩
    clear HT
    obtain hs | hs:=tf (sees E i [[105,102]])
    ·have HT:=Lib.hid (HX28.out.takesY [[105,102]] #[.string ⟨#[105,102]⟩] rfl (by decide) hs)
     replace HQ:=Lib.hid ((ite_yes hs).symm.trans HQ.out)
     clear HX28 hs
     go_wp2_with (fail)
     refine HT.out.mono ?_
     rintro e w29 ⟨rfl,HX29⟩
     clear HT
     have hszP:=HX29.out.low
     have HC:=Lib.hid (HX29.out.part (HIH.out.options [102,105] HX29.out.par (bd_ne HQ.out HNE.out)) HQ.out)
     clear HQ HX29 
     go_wp2_with (fail)
     refine HC.out _ (fun c a wz h hF=>⟨rfl,HB.out c a wz h hF⟩) ?_
     rintro l j2 v w30 hr HQ hv HX30
     clear hr HC
     obtain ⟨fa,fc,rfl⟩:=hv.form
     replace HX30:=Lib.hid (HX30.out.and (V:=fun W=>OptsV (From w29.heap.size) W (.slice fa l.length fc) l) hv (fun k h=>h.up (k.keep (by show ¬ _;omega) (by show ¬ _;omega))))
     clear hv
     go_wp2_with (refine wpList_store1 rfl 3 _ _ rfl (w.heap.size) 0 (.int .i64 7) rfl rfl HX30.out.box (Nat.le_of_ble_eq_true rfl) sz_int rfl rfl ?_)
     refine Named.mk (fun w31 hW=>?_)
     have HX31:=Lib.hid (HX30.out.store hW (Nat.le_of_ble_eq_true rfl))
     clear hW HX30
     go_wp2_with (refine wpList_store1 rfl 55 _ _ rfl (w.heap.size) 26 (.slice fa l.length fc) rfl rfl HX31.out.box (Nat.le_of_ble_eq_true rfl) sz_Opts rfl rfl ?_)
     refine Named.mk (fun w32 hW=>?_)
     have HX32:=Lib.hid (HX31.out.store hW (Nat.le_of_ble_eq_true rfl))
     clear hW HX31
     go_wp2_with (fail)
     go_meet
     case rel=>exact ⟨_,_,_,HQ,Lib.hid (StmF.of RfF.zero AstF.zero AstsV.nil ArgsV.nil DvsV.nil (HX32.out.q.2.mono (Wide.from hszP)) stms_nil),Lib.hid HX32.out.forget⟩
    have HT:=Lib.hid (HX28.out.takesN [[105,102]] #[.string ⟨#[105,102]⟩] rfl (by decide) hs)
    replace HQ:=Lib.hid ((ite_no hs).symm.trans HQ.out)
    clear HX28 hs
    go_wp2_with (fail)
    refine HT.out.mono ?_
    rintro e w33 ⟨rfl,HX33⟩
    clear HT
    obtain hs | hs:=tf (sees E i [[100,111]])
    ·have HT:=Lib.hid (HX33.out.takesY [[100,111]] #[.string ⟨#[100,111]⟩] rfl (by decide) hs)
     replace HQ:=Lib.hid ((ite_yes hs).symm.trans HQ.out)
     clear HX33 hs
     go_wp2_with (fail)
     refine HT.out.mono ?_
     rintro e w34 ⟨rfl,HX34⟩
     clear HT
     have hszP:=HX34.out.low
     have HC:=Lib.hid (HX34.out.part (HIH.out.options [111,100] HX34.out.par (bd_ne HQ.out HNE.out)) HQ.out)
     clear HQ HX34 
     go_wp2_with (fail)
     refine HC.out _ (fun c a wz h hF=>⟨rfl,HB.out c a wz h hF⟩) ?_
     rintro l j2 v w35 hr HQ hv HX35
     clear hr HC
     obtain ⟨fa,fc,rfl⟩:=hv.form
     replace HX35:=Lib.hid (HX35.out.and (V:=fun W=>OptsV (From w34.heap.size) W (.slice fa l.length fc) l) hv (fun k h=>h.up (k.keep (by show ¬ _;omega) (by show ¬ _;omega))))
     clear hv
     go_wp2_with (refine wpList_store1 rfl 3 _ _ rfl (w.heap.size) 0 (.int .i64 8) rfl rfl HX35.out.box (Nat.le_of_ble_eq_true rfl) sz_int rfl rfl ?_)
     refine Named.mk (fun w36 hW=>?_)
     have HX36:=Lib.hid (HX35.out.store hW (Nat.le_of_ble_eq_true rfl))
     clear hW HX35
     go_wp2_with (refine wpList_store1 rfl 55 _ _ rfl (w.heap.size) 26 (.slice fa l.length fc) rfl rfl HX36.out.box (Nat.le_of_ble_eq_true rfl) sz_Opts rfl rfl ?_)
     refine Named.mk (fun w37 hW=>?_)
     have HX37:=Lib.hid (HX36.out.store hW (Nat.le_of_ble_eq_true rfl))
     clear hW HX36
     go_wp2_with (fail)
     go_meet
     case rel=>exact ⟨_,_,_,HQ,Lib.hid (StmF.of RfF.zero AstF.zero AstsV.nil ArgsV.nil DvsV.nil (HX37.out.q.2.mono (Wide.from hszP)) stms_nil),Lib.hid HX37.out.forget⟩
    have HT:=Lib.hid (HX33.out.takesN [[100,111]] #[.string ⟨#[100,111]⟩] rfl (by decide) hs)
    replace HQ:=Lib.hid ((ite_no hs).symm.trans HQ.out)
    clear HX33 hs
    go_wp2_with (fail)
    refine HT.out.mono ?_
    rintro e w38 ⟨rfl,HX38⟩
    clear HT
    obtain hs | hs:=tf (sees E i [[98,114,101,97,107]])
    ·have HT:=Lib.hid (HX38.out.takesY [[98,114,101,97,107]] #[.string ⟨#[98,114,101,97,107]⟩] rfl (by decide) hs)
     replace HQ:=Lib.hid ((ite_yes hs).symm.trans HQ.out)
     clear HX38 hs
     go_wp2_with (fail)
     refine HT.out.mono ?_
     rintro e w39 ⟨rfl,HX39⟩
     clear HT
     go_wp2_with (refine wpList_store1 rfl 3 _ _ rfl (w.heap.size) 0 (.int .i64 9) rfl rfl HX39.out.box (Nat.le_of_ble_eq_true rfl) sz_int rfl rfl ?_)
     refine Named.mk (fun w40 hW=>?_)
     have HX40:=Lib.hid (HX39.out.store hW (Nat.le_of_ble_eq_true rfl))
     clear hW HX39
     go_wp2_with (fail)
     go_meet
     case rel=>exact ⟨_,_,_,HQ,Lib.hid (StmF.of RfF.zero AstF.zero AstsV.nil ArgsV.nil DvsV.nil opts_nil stms_nil),Lib.hid HX40.out.forget⟩
    have HT:=Lib.hid (HX38.out.takesN [[98,114,101,97,107]] #[.string ⟨#[98,114,101,97,107]⟩] rfl (by decide) hs)
    replace HQ:=Lib.hid ((ite_no hs).symm.trans HQ.out)
    clear HX38 hs
    go_wp2_with (fail)
    refine HT.out.mono ?_
    rintro e w41 ⟨rfl,HX41⟩
    clear HT
    obtain hs | hs:=tf (sees E i [[115,107,105,112]])
    ·have HT:=Lib.hid (HX41.out.takesY [[115,107,105,112]] #[.string ⟨#[115,107,105,112]⟩] rfl (by decide) hs)
     replace HQ:=Lib.hid ((ite_yes hs).symm.trans HQ.out)
     clear HX41 hs
     go_wp2_with (fail)
     refine HT.out.mono ?_
     rintro e w42 ⟨rfl,HX42⟩
     clear HT
     go_wp2_with (refine wpList_store1 rfl 3 _ _ rfl (w.heap.size) 0 (.int .i64 19) rfl rfl HX42.out.box (Nat.le_of_ble_eq_true rfl) sz_int rfl rfl ?_)
     refine Named.mk (fun w43 hW=>?_)
     have HX43:=Lib.hid (HX42.out.store hW (Nat.le_of_ble_eq_true rfl))
     clear hW HX42
     go_wp2_with (fail)
     go_meet
     case rel=>exact ⟨_,_,_,HQ,Lib.hid (StmF.of RfF.zero AstF.zero AstsV.nil ArgsV.nil DvsV.nil opts_nil stms_nil),Lib.hid HX43.out.forget⟩
    have HT:=Lib.hid (HX41.out.takesN [[115,107,105,112]] #[.string ⟨#[115,107,105,112]⟩] rfl (by decide) hs)
    replace HQ:=Lib.hid ((ite_no hs).symm.trans HQ.out)
    clear HX41 hs
    go_wp2_with (fail)
    refine HT.out.mono ?_
    rintro e w44 ⟨rfl,HX44⟩
    clear HT
    obtain hs | hs:=tf (sees E i [[101,108,115,101]])
    ·have HT:=Lib.hid (HX44.out.takesY [[101,108,115,101]] #[.string ⟨#[101,108,115,101]⟩] rfl (by decide) hs)
     replace HQ:=Lib.hid ((ite_yes hs).symm.trans HQ.out)
     clear HX44 hs
     go_wp2_with (fail)
     refine HT.out.mono ?_
     rintro e w45 ⟨rfl,HX45⟩
     clear HT
     go_wp2_with (refine wpList_store1 rfl 3 _ _ rfl (w.heap.size) 0 (.int .i64 20) rfl rfl HX45.out.box (Nat.le_of_ble_eq_true rfl) sz_int rfl rfl ?_)
     refine Named.mk (fun w46 hW=>?_)
     have HX46:=Lib.hid (HX45.out.store hW (Nat.le_of_ble_eq_true rfl))
     clear hW HX45
     go_wp2_with (fail)
     go_meet
     case rel=>exact ⟨_,_,_,HQ,Lib.hid (StmF.of RfF.zero AstF.zero AstsV.nil ArgsV.nil DvsV.nil opts_nil stms_nil),Lib.hid HX46.out.forget⟩
    have HT:=Lib.hid (HX44.out.takesN [[101,108,115,101]] #[.string ⟨#[101,108,115,101]⟩] rfl (by decide) hs)
    replace HQ:=Lib.hid ((ite_no hs).symm.trans HQ.out)
    clear HX44 hs
    go_wp2_with (fail)
    refine HT.out.mono ?_
    rintro e w47 ⟨rfl,HX47⟩
    clear HT
    obtain hs | hs:=tf (sees E i [[103,111,116,111]])
    ·have HT:=Lib.hid (HX47.out.takesY [[103,111,116,111]] #[.string ⟨#[103,111,116,111]⟩] rfl (by decide) hs)
     replace HQ:=Lib.hid ((ite_yes hs).symm.trans HQ.out)
     clear HX47 hs
     go_wp2_with (fail)
     refine HT.out.mono ?_
     rintro e w48 ⟨rfl,HX48⟩
     clear HT
     have HC:=Lib.hid (HX48.out.part (idFn HX48.out.par) HQ.out)
     clear HQ HX48 
     go_wp2_with (fail)
     refine HC.out _ (fun c a wz h hF=>⟨rfl,HB.out c a wz h hF⟩) ?_
     rintro s j2 v w49 hr HQ hv HX49
     clear hr HC
     obtain rfl:=hv
     go_wp2_with (refine wpList_store1 rfl 3 _ _ rfl (w.heap.size) 0 (.int .i64 10) rfl rfl HX49.out.box (Nat.le_of_ble_eq_true rfl) sz_int rfl rfl ?_)
     refine Named.mk (fun w50 hW=>?_)
     have HX50:=Lib.hid (HX49.out.store hW (Nat.le_of_ble_eq_true rfl))
     clear hW HX49
     go_wp2_with (refine wpList_store1 rfl 9 _ _ rfl (w.heap.size) 2 (.string ⟨s.toArray⟩) rfl rfl HX50.out.box (Nat.le_of_ble_eq_true rfl) sz_string rfl rfl ?_)
     refine Named.mk (fun w51 hW=>?_)
     have HX51:=Lib.hid (HX50.out.store hW (Nat.le_of_ble_eq_true rfl))
     clear hW HX50
     go_wp2_with (fail)
     go_meet
     case rel=>exact ⟨_,_,_,HQ,Lib.hid (StmF.of RfF.zero AstF.zero AstsV.nil ArgsV.nil DvsV.nil opts_nil stms_nil),Lib.hid HX51.out.forget⟩
    have HT:=Lib.hid (HX47.out.takesN [[103,111,116,111]] #[.string ⟨#[103,111,116,111]⟩] rfl (by decide) hs)
    replace HQ:=Lib.hid ((ite_no hs).symm.trans HQ.out)
    clear HX47 hs
    go_wp2_with (fail)
    refine HT.out.mono ?_
    rintro e w52 ⟨rfl,HX52⟩
    clear HT
    obtain hs | hs:=tf (sees E i [[97,115,115,101,114,116]])
    ·have HT:=Lib.hid (HX52.out.takesY [[97,115,115,101,114,116]] #[.string ⟨#[97,115,115,101,114,116]⟩] rfl (by decide) hs)
     replace HQ:=Lib.hid ((ite_yes hs).symm.trans HQ.out)
     clear HX52 hs
     go_wp2_with (fail)
     refine HT.out.mono ?_
     rintro e w53 ⟨rfl,HX53⟩
     clear HT
     go_wp2_with (refine wpList_store1 rfl 3 _ _ rfl (w.heap.size) 0 (.int .i64 16) rfl rfl HX53.out.box (Nat.le_of_ble_eq_true rfl) sz_int rfl rfl ?_)
     refine Named.mk (fun w54 hW=>?_)
     have HX54:=Lib.hid (HX53.out.store hW (Nat.le_of_ble_eq_true rfl))
     clear hW HX53
     have HC:=Lib.hid (HX54.out.part (needFn HX54.out.par [40]) HQ.out)
     clear HQ HX54 
     go_wp2_with (fail)
     refine HC.out _ (fun c a wz h hF=>⟨rfl,HB.out c a wz h hF⟩) ?_
     rintro u j2 v w55 hr HQ hv HX55
     clear hr HC
     obtain rfl:=hv
     have hszP:=HX55.out.low
     have HC:=Lib.hid (HX55.out.part ((exprOk E f).expr (lvl:=0) HX55.out.par (by omega) (bd_ne HQ.out HNE.out)) HQ.out)
     clear HQ HX55 
     go_wp2_with (fail)
     refine HC.out _ (fun c a wz h hF=>⟨rfl,HB.out c a wz h hF⟩) ?_
     rintro e j3 v w56 hr HQ hv HX56
     clear hr HC
     obtain ⟨vn,vi,vh,vk,va,rfl,hv⟩:=hv
     obtain ⟨ea1,en1,ec1,ea2,en2,ec2,ea3,en3,ec3,ea4,en4,ec4,ea5,en5,ec5,rfl,rfl,rfl,rfl,rfl⟩:=hv.forms
     unfold Ast.val
     replace HX56:=Lib.hid (HX56.out.and (V:=fun W=>AstF (From w55.heap.size) W e (.slice ea1 en1 ec1) (.slice ea2 en2 ec2) (.slice ea3 en3 ec3) (.slice ea4 en4 ec4) (.slice ea5 en5 ec5)) hv (fun k h=>h.up (k.keep (by show ¬ _;omega) (by show ¬ _;omega))))
     clear hv
     go_wp2_with (refine wpList_storeB rfl 41 _ _ rfl (w.heap.size) 11 [.int .i64 (e.kind:Int),.int .i64 e.n,.string ⟨e.name.toArray⟩,.string ⟨e.label.toArray⟩,.slice ea1 en1 ec1,.slice ea2 en2 ec2,.slice ea3 en3 ec3,.slice ea4 en4 ec4,.slice ea5 en5 ec5] rfl rfl HX56.out.box (Nat.le_of_ble_eq_true rfl) sz_Ast (by simp [Value.oneCell']) ?_)
     refine Named.mk (fun w57 hW=>?_)
     have HX57:=Lib.hid (HX56.out.store hW (Nat.le_of_ble_eq_true rfl))
     clear hW HX56
     have HC:=Lib.hid (HX57.out.part (needFn HX57.out.par [41]) HQ.out)
     clear HQ HX57 
     go_wp2_with (fail)
     refine HC.out _ (fun c a wz h hF=>⟨rfl,HB.out c a wz h hF⟩) ?_
     rintro u j4 v w58 hr HQ hv HX58
     clear hr HC
     obtain rfl:=hv
     go_wp2_with (fail)
     go_meet
     case rel=>exact ⟨_,_,_,HQ,Lib.hid (StmF.of RfF.zero (HX58.out.q.2.mono (Wide.from hszP)) AstsV.nil ArgsV.nil DvsV.nil opts_nil stms_nil),Lib.hid HX58.out.forget⟩
    have HT:=Lib.hid (HX52.out.takesN [[97,115,115,101,114,116]] #[.string ⟨#[97,115,115,101,114,116]⟩] rfl (by decide) hs)
    replace HQ:=Lib.hid ((ite_no hs).symm.trans HQ.out)
    clear HX52 hs
    go_wp2_with (fail)
    refine HT.out.mono ?_
    rintro e w59 ⟨rfl,HX59⟩
    clear HT
    obtain hs | hs:=tf (sees E i [[112,114,105,110,116,102]])
    ·have HT:=Lib.hid (HX59.out.takesY [[112,114,105,110,116,102]] #[.string ⟨#[112,114,105,110,116,102]⟩] rfl (by decide) hs)
     replace HQ:=Lib.hid ((ite_yes hs).symm.trans HQ.out)
     clear HX59 hs
     go_wp2_with (fail)
     refine HT.out.mono ?_
     rintro e w60 ⟨rfl,HX60⟩
     clear HT
     go_wp2_with (refine wpList_store1 rfl 3 _ _ rfl (w.heap.size) 0 (.int .i64 17) rfl rfl HX60.out.box (Nat.le_of_ble_eq_true rfl) sz_int rfl rfl ?_)
     refine Named.mk (fun w61 hW=>?_)
     have HX61:=Lib.hid (HX60.out.store hW (Nat.le_of_ble_eq_true rfl))
     clear hW HX60
     have HC:=Lib.hid (HX61.out.part (needFn HX61.out.par [40]) HQ.out)
     clear HQ HX61 
     go_wp2_with (fail)
     refine HC.out _ (fun c a wz h hF=>⟨rfl,HB.out c a wz h hF⟩) ?_
     rintro u j2 v w62 hr HQ hv HX62
     clear hr HC
     obtain rfl:=hv
     by_cases hk:kindAt E j2=3
     ·have HT:=Lib.hid (HX62.out.is 3 (decide_eq_true hk))
      replace HQ:=Lib.hid ((if_pos hk).symm.trans HQ.out)
      have HK:=Lib.hid hk
      clear HX62 hk
      go_wp2_with (fail)
      refine HT.out.mono ?_
      rintro e w63 ⟨rfl,HX63⟩
      clear HT
      have HLT:=Lib.hid (kind_lt (E:=E) (i:=j2) (by have:=HK.out;omega))
      obtain ⟨t2,ht2⟩:∃ t,tokAt E j2=t:=⟨_,rfl⟩
      have hQ:=HQ.out
      rw [textAt_tok,ht2] at hQ
      replace HQ:=Lib.hid hQ
      have Ht2:=Lib.hid ht2
      clear ht2 hQ HK
      have hT:=HX63.out.word Ht2.out
      unfold tokV at hT
      have HT:=Lib.hid hT
      clear HX63 hT
      go_wp2_with (fail)
      refine HT.out.mono ?_
      rintro e w64 ⟨rfl,HX64⟩
      clear HT
      go_wp2_with (refine wpList_store1 rfl 9 _ _ rfl (w.heap.size) 3 (.string ⟨t2.text.toArray⟩) rfl rfl HX64.out.box (Nat.le_of_ble_eq_true rfl) sz_string rfl rfl ?_)
      refine Named.mk (fun w65 hW=>?_)
      have HX65:=Lib.hid (HX64.out.store hW (Nat.le_of_ble_eq_true rfl))
      clear hW HX64
      obtain ⟨c0,c1,c2,f2⟩:=HX65.out.par.cells
      have hj65:=HX65.out.few
      go_wp2_with (refine wpList_store1 rfl 3 _ _ rfl p 2 (.int .i64 ((j2:Int) + 1)) rfl rfl HX65.out.par.at_ (by simp) sz_int rfl rfl ?_)
      refine Named.mk (fun w66 hW=>?_)
      have HX66:=Lib.hid (HX65.out.set (j':=j2 + 1) HLT.out hW)
      clear hW c0 c1 c2 f2 hj65 HX65
      obtain hs | hs:=tf (sees E (j2 + 1) [[44]])
      ·have HT:=Lib.hid (HX66.out.takesY [[44]] #[.string ⟨#[44]⟩] rfl (by decide) hs)
       replace HQ:=Lib.hid ((bite_yes hs).symm.trans HQ.out)
       clear HX66 hs
       go_wp2_with (fail)
       refine HT.out.mono ?_
       rintro e w67 ⟨rfl,HX67⟩
       clear HT
       have hszP:=HX67.out.low
       have HC:=Lib.hid (HX67.out.part (listAstFn f (fun k=>expr E f 0 k) _ _ _ HX67.out.par (oneFull (exprOk E f)) (fun i a k h=>Nat.le_of_lt ((advE E f).expr h)) (bd_ne HQ.out HNE.out)) HQ.out)
       clear HQ HX67 
       go_wp2_with (fail)
       refine HC.out _ (fun c a wz h hF=>⟨rfl,HB.out c a wz h hF⟩) ?_
       rintro l j5 v w68 hr HQ hv HX68
       clear hr HC
       obtain ⟨ff,hr,hf⟩:=hv
       obtain ⟨za,zc,hvf,_⟩:=hr.form
       subst hvf
       replace HX68:=Lib.hid (HX68.out.and (V:=fun W=>AstsV (From w67.heap.size) W (.slice za l.length zc) l) ⟨ff,hr,hf⟩ (fun k h=>h.up (k.keep (by show ¬ _;omega) (by show ¬ _;omega))))
       clear hr hf
       go_wp2_with (refine wpList_store1 rfl 35 _ _ rfl (w.heap.size) 20 (.slice za l.length zc) rfl rfl HX68.out.box (Nat.le_of_ble_eq_true rfl) sz_Asts rfl rfl ?_)
       refine Named.mk (fun w69 hW=>?_)
       have HX69:=Lib.hid (HX68.out.store hW (Nat.le_of_ble_eq_true rfl))
       clear hW HX68
       have HC:=Lib.hid (HX69.out.part (needFn HX69.out.par [41]) HQ.out)
       clear HQ HX69 
       go_wp2_with (fail)
       refine HC.out _ (fun c a wz h hF=>⟨rfl,HB.out c a wz h hF⟩) ?_
       rintro u j6 v w70 hr HQ hv HX70
       clear hr HC
       obtain rfl:=hv
       go_wp2_with (fail)
       go_meet
       case rel=>exact ⟨_,_,_,HQ,Lib.hid (StmF.of RfF.zero AstF.zero (HX70.out.q.2.mono (Wide.from hszP)) ArgsV.nil DvsV.nil opts_nil stms_nil),Lib.hid HX70.out.forget⟩
      have HT:=Lib.hid (HX66.out.takesN [[44]] #[.string ⟨#[44]⟩] rfl (by decide) hs)
      replace HQ:=Lib.hid ((bite_no hs).symm.trans HQ.out)
      clear HX66 hs
      go_wp2_with (fail)
      refine HT.out.mono ?_
      rintro e w71 ⟨rfl,HX71⟩
      clear HT
      replace HQ:=Lib.hid (bd_ok.symm.trans HQ.out)
      have HC:=Lib.hid (HX71.out.part (needFn HX71.out.par [41]) HQ.out)
      clear HQ HX71 
      go_wp2_with (fail)
      refine HC.out _ (fun c a wz h hF=>⟨rfl,HB.out c a wz h hF⟩) ?_
      rintro u j6 v w72 hr HQ hv HX72
      clear hr HC
      obtain rfl:=hv
      go_wp2_with (fail)
      go_meet
      case rel=>exact ⟨_,_,_,HQ,Lib.hid (StmF.of RfF.zero AstF.zero AstsV.nil ArgsV.nil DvsV.nil opts_nil stms_nil),Lib.hid HX72.out.forget⟩
     have HT:=Lib.hid (HX62.out.is 3 (decide_eq_false hk))
     replace HQ:=Lib.hid ((if_neg hk).symm.trans HQ.out)
     have HK:=Lib.hid hk
     clear HX62 hk
     go_wp2_with (fail)
     refine HT.out.mono ?_
     rintro e w73 ⟨rfl,HX73⟩
     clear HT
     have HC:=Lib.hid (HX73.out.wrong HQ.out)
     clear HQ HX73
     go_wp2_with (fail)
     exact HC.out _ (fun c a wz h hF=>⟨rfl,HB.out c a wz h hF⟩)
    have HT:=Lib.hid (HX59.out.takesN [[112,114,105,110,116,102]] #[.string ⟨#[112,114,105,110,116,102]⟩] rfl (by decide) hs)
    replace HQ:=Lib.hid ((ite_no hs).symm.trans HQ.out)
    clear HX59 hs
    go_wp2_with (fail)
    refine HT.out.mono ?_
    rintro e w74 ⟨rfl,HX74⟩
    clear HT
    go_upto_region 40 with (fail)
    go_cut [140] (fun sq wx=>∃ q:Bool,sq=.bool q∧Hid ((decide (kindAt E i=1) && sees E (i + 1) [[40]])=q)∧Hid (Cx w p vl E w.heap.size 57 (fun _=>True) wx i [.int .i64 0,.int .i64 (t.at_:Int),.string ⟨#[]⟩,.string ⟨#[]⟩,.int .i64 0,.bool false,.bool false,.bool false,.slice none 0 0,.slice none 0 0,.slice none 0 0,.int .i64 0,.int .i64 0,.string ⟨#[]⟩,.string ⟨#[]⟩,.slice none 0 0,.slice none 0 0,.slice none 0 0,.slice none 0 0,.slice none 0 0,.slice none 0 0,.slice none 0 0,.int .i64 0,.string ⟨#[]⟩,.slice none 0 0,.int .i64 0,.slice none 0 0,.slice none 0 0]))
    case first=>
     by_cases hk:kindAt E i=1
     ·have HT:=Lib.hid (HX74.out.is 1 (decide_eq_true hk))
      have HK:=Lib.hid hk
      clear HX74 hk
      go_wp2_with (fail)
      refine HT.out.mono ?_
      rintro e w75 ⟨rfl,HX75⟩
      clear HT
      obtain hs | hs:=tf (sees E (i + 1) [[40]])
      ·have HT:=Lib.hid (HX75.out.see1 [[40]] #[.string ⟨#[40]⟩] rfl (by decide) hs)
       have HS1:=Lib.hid hs
       clear HX75 hs
       go_wp2_with (fail)
       refine HT.out.mono ?_
       rintro e w76 ⟨rfl,HX76⟩
       clear HT
       go_wp2_with (fail)
       go_meet
       case rel=>exact ⟨true,rfl,by show _=_;rw [HS1.out,decide_eq_true HK.out];rfl,HX76⟩
      have HT:=Lib.hid (HX75.out.see1 [[40]] #[.string ⟨#[40]⟩] rfl (by decide) hs)
      have HS1:=Lib.hid hs
      clear HX75 hs
      go_wp2_with (fail)
      refine HT.out.mono ?_
      rintro e w77 ⟨rfl,HX77⟩
      clear HT
      go_wp2_with (fail)
      go_meet
      case rel=>exact ⟨false,rfl,by show _=_;rw [HS1.out,Bool.and_false],HX77⟩
     have HT:=Lib.hid (HX74.out.is 1 (decide_eq_false hk))
     have HK:=Lib.hid hk
     clear HX74 hk
     go_wp2_with (fail)
     refine HT.out.mono ?_
     rintro e w78 ⟨rfl,HX78⟩
     clear HT
     go_wp2_with (fail)
     go_meet
     case rel=>exact ⟨false,rfl,by show _=_;rw [decide_eq_false HK.out,Bool.false_and],HX78⟩
    case rest=>
     clear HX74
     obtain ⟨q,rfl,HQ2,HX79⟩:=hcut
     cases q with
     | true=>
      have hq2:=HQ2.out
      have hQ:=(ite_yes hq2).symm.trans HQ.out
      rw [Bool.and_eq_true,decide_eq_true_eq] at hq2
      obtain ⟨hk2,_⟩:=hq2
      replace HQ:Hid ((pid E i).bd (fun n j=>(within E (expr E f 0) f j).bd fun l j=>.ok (.mk 18 t.at_ n [] 0 false false false .zero .zero l [] .zero [] []) j)=Rr):=(pid_bd hk2 _).symm.trans hQ
      clear hQ hk2
      have HC:=Lib.hid (HX79.out.part (idFn HX79.out.par) HQ.out)
      clear HQ HX79 
      go_wp2_with (fail)
      refine HC.out _ (fun c a wz h hF=>⟨rfl,HB.out c a wz h hF⟩) ?_
      rintro s j2 v w80 hr HQ hv HX80
      clear hr HC
      obtain rfl:=hv
      go_wp2_with (refine wpList_store1 rfl 3 _ _ rfl (w.heap.size) 0 (.int .i64 18) rfl rfl HX80.out.box (Nat.le_of_ble_eq_true rfl) sz_int rfl rfl ?_)
      refine Named.mk (fun w81 hW=>?_)
      have HX81:=Lib.hid (HX80.out.store hW (Nat.le_of_ble_eq_true rfl))
      clear hW HX80
      go_wp2_with (refine wpList_store1 rfl 9 _ _ rfl (w.heap.size) 2 (.string ⟨s.toArray⟩) rfl rfl HX81.out.box (Nat.le_of_ble_eq_true rfl) sz_string rfl rfl ?_)
      refine Named.mk (fun w82 hW=>?_)
      have HX82:=Lib.hid (HX81.out.store hW (Nat.le_of_ble_eq_true rfl))
      clear hW HX81
      have hszP:=HX82.out.low
      have HC:=Lib.hid (HX82.out.part (withinAstFn f (fun k=>expr E f 0 k) _ _ _ HX82.out.par (oneFull (exprOk E f)) (fun i a k h=>Nat.le_of_lt ((advE E f).expr h)) (bd_ne HQ.out HNE.out)) HQ.out)
      clear HQ HX82 
      go_wp2_with (fail)
      refine HC.out _ (fun c a wz h hF=>⟨rfl,HB.out c a wz h hF⟩) ?_
      rintro l j3 v w83 hr HQ hv HX83
      clear hr HC
      obtain ⟨ff,hr,hf⟩:=hv
      obtain ⟨za,zc,hvf,_⟩:=hr.form
      subst hvf
      replace HX83:=Lib.hid (HX83.out.and (V:=fun W=>AstsV (From w82.heap.size) W (.slice za l.length zc) l) ⟨ff,hr,hf⟩ (fun k h=>h.up (k.keep (by show ¬ _;omega) (by show ¬ _;omega))))
      clear hr hf
      go_wp2_with (refine wpList_store1 rfl 35 _ _ rfl (w.heap.size) 20 (.slice za l.length zc) rfl rfl HX83.out.box (Nat.le_of_ble_eq_true rfl) sz_Asts rfl rfl ?_)
      refine Named.mk (fun w84 hW=>?_)
      have HX84:=Lib.hid (HX83.out.store hW (Nat.le_of_ble_eq_true rfl))
      clear hW HX83
      go_wp2_with (fail)
      go_meet
      case rel=>exact ⟨_,_,_,HQ,Lib.hid (StmF.of RfF.zero AstF.zero (HX84.out.q.2.mono (Wide.from hszP)) ArgsV.nil DvsV.nil opts_nil stms_nil),Lib.hid HX84.out.forget⟩
     | false=>
      replace HQ:=Lib.hid ((ite_no HQ2.out).symm.trans HQ.out)
      have HC:=Lib.hid (simpleFn (a0:=t.at_) HX79.out.par HX79.out.box hp1 (by rw [HQ.out];exact HNE.out))
      have hszP:=HX79.out.low
      have HF:=Lib.hid HX79.out.fp
      clear HX79
      go_wp2_with (fail)
      cases h1:simple E f t.at_ i with
      | out=>exact absurd (HQ.out.symm.trans h1) HNE.out
      | bad c a=>
       have HC':=HC.out
       rw [h1] at HC'
       refine HC'.mono ?_
       rintro e wz ⟨rfl,hF⟩
       exact ⟨rfl,HB.out c a wz (HQ.out.symm.trans h1) (HF.out.f2 (Nat.le_refl _) hF)⟩
      | ok s j=>
       have HC':=HC.out
       rw [h1] at HC'
       replace HQ:=Lib.hid (h1.symm.trans HQ.out)
       refine HC'.mono ?_
       rintro e w85 ⟨rfl,cs,hl,hH,hS,hPq,hFq⟩
       have HS:=Lib.hid hS
       have HXx:Hid (Cx w p vl E w.heap.size 57 (fun _=>True) w85 j cs):=⟨hPq,HF.out.f2 (Nat.le_refl _) hFq,hH,hp1,Nat.le_refl _,trivial,fun _ h=>h⟩
       clear hS hH hPq hFq hl HC' HC HF h1
       go_wp2_with (fail)
       go_meet
       case rel=>exact ⟨_,_,_,HQ,Lib.hid (StmF.mono (Wide.from hszP) _ HS.out),HXx⟩
 case rest=>
  clear HX2 HQ HIH
  obtain ⟨s,j,cs,HQ,HS,HXe⟩:=hcut
  obtain ⟨hl,ho⟩:=HS.out.one
  have hsz:(Tryz.prog.info? 57).map (·.size)=some cs.length:=by rw [hl];exact sz_Stm
  have HO:=Lib.hid ho
  clear ho
  go_wp2_with (first | (refine wpList_load_mid rfl 57 _ rfl (w.heap.size) 0 rfl cs _ (HXe.out.box.range (n:=28) (by rw [List.drop_zero];exact List.take_of_length_le (by omega))) Tryz.underlying57 rfl hsz ?_) | (refine wpList_storeB rfl 57 _ _ rfl (w.heap.size) 0 cs rfl rfl HXe.out.box (by omega) hsz HO.out ?_))
  refine Named.mk (fun wf hWf=>?_)
  go_wp2
  have hh:=HXe.out.box.stored hWf (by omega)
  rw [List.take_zero,List.nil_append,List.drop_of_length_le (by omega),List.append_nil] at hh
  refine bodyPost_ret (outBox Tryz.results159 hh rfl _ Tryz.underlying57 rfl hsz) rfl ?_
  rw [← HQ.out,hWf]
  exact ⟨_,rfl,⟨cs,rfl,StmF.mono (Wide.from (Nat.le_succ _)) _ (StmF.up (Keep.setR (by show ¬ _;omega) _ _) _ HS.out)⟩,Par.setR (by omega) _ _ HXe.out.par,Fp.setR (Nat.le_refl _) _ _ HXe.out.fp⟩
end Go.Proofs.YtpoghableadkcaaGreatDoor
