/- Dcl, Dcs, joined. -/
import Derived.Test.YtpoghableadkcaaGreatDoorIvr
import Derived.Deep.LoopGhost
section
/- The walk of decl (printed by mkdecl2.py). -/
namespace Go.Proofs.YtpoghableadkcaaGreatDoor
open Go.RowKit
set_option linter.unusedVariables false
set_option linter.unusedSimpArgs false

theorem many_pos' {E:Env} {A:Type} {one:Nat→R A} (ho:∀ i a k,one i=.ok a k→i < k∧k ≤ E.L.length) {g i j:Nat} {l:List A} (h:many E one g i=.ok l j):i < j∧j ≤ E.L.length:=
 ⟨many_pos (fun i a k h=>(ho i a k h).1) h,many_top (fun i a k h=>(ho i a k h).2) g i _ _ h⟩
theorem ivarRest_to {E:Env} {f:Nat} {n:Bs} {p:Ast × Bool} {k:Nat}:To k (ivarRest E f n p k):=by
 unfold ivarRest
 refine To.ite (fun _=>To.ite (fun _=>To.bd fun e m hm=>To.bd fun _ m2 h2=>To.bd fun _ m3 h3=>To.bd fun _ m4 h4=>To.bd fun l m5 h5=>To.bd fun _ m6 h6=>To.ok ?_) fun _=>To.bd fun e m hm=>To.ok ?_) fun _=>To.ok (Nat.le_refl _)
 ·have:=(advE E f).expr hm
  have:=need_pos h2
  have:=need_pos h3
  have:=need_pos h4
  have:=(many_pos' field_adv h5).1
  have:=need_pos h6
  omega
 ·have:=(advE E f).expr hm
  omega
theorem ivarRest_top {E:Env} {f:Nat} {n:Bs} {p:Ast × Bool} {k:Nat} (hk:k ≤ E.L.length):Tp E (ivarRest E f n p k):=by
 unfold ivarRest
 exact Tp.ite (fun _=>Tp.ite (fun _=>Tp.bd fun e m hm=>Tp.bd fun _ m2 h2=>Tp.bd fun _ m3 h3=>Tp.bd fun _ m4 h4=>Tp.bd fun l m5 h5=>Tp.bd fun _ m6 h6=>Tp.ok (need_top h6).1) fun _=>Tp.bd fun e m hm=>Tp.ok ((topE E f).expr _ _ _ _ hm)) fun _=>Tp.ok hk
theorem ivar_adv {E:Env} {f:Nat}:∀ i a k,ivar E f i=.ok a k→i < k∧k ≤ E.L.length:=fun i a k h=>by
 rw [ivar_eq] at h
 have h1:To (i + 1) ((pid E i).bd fun n j=>(if sees E j [[91]] then (expr E f 0 (j + 1)).bd fun a k=>(need E [93] k).bd fun _ m=>R.ok (a,true) m else R.ok (Ast.zero,false) j).bd (ivarRest E f n)):=by
  refine To.bd fun n j hj=>To.bd fun p k hk=>?_
  have h1:=pid_pos hj
  have h2:j ≤ k:=by
   refine To.ite (k:=j) (c:=sees E j [[91]]=true) (fun _=>To.bd fun a m hm=>To.bd fun u q hq=>To.ok ?_) (fun _=>To.ok (Nat.le_refl _)) p k hk
   have:=(advE E f).expr hm
   have:=need_pos hq
   omega
  intro b m hm
  have:=ivarRest_to b m hm
  omega
 refine ⟨h1 a k h,?_⟩
 refine (Tp.bd (E:=E) fun n j hj=>Tp.bd fun p k hk=>ivarRest_top ?_) a k h
 refine Tp.ite (c:=sees E j [[91]]=true) (E:=E) (fun h=>?_) (fun _=>Tp.ok (pid_top hj).1) _ _ hk
 exact Tp.bd fun a k hk=>Tp.bd fun u m hm=>Tp.ok (need_top hm).1
theorem oneIvar {E:Env} {f p:Nat} {vl:Value}:OneOk p vl E DvV 107 #[.pointer (some ⟨p,0,none⟩)] #[] (fun k=>ivar E f k):=
 ⟨enters_of Tryz.func107 (by decide) rfl,fun hP hne=>ivarFn hP hne⟩

set_option maxHeartbeats 4000000 in
set_option maxRecDepth 100000 in
theorem declFn {E:Env} {f:Nat} {w:World} {p i:Nat} {vl:Value} (hP:Par w p vl E i) (hne:decl E f i ≠ .out):
  Calls Tryz.prog 57 #[.pointer (some ⟨p,0,none⟩)] w (Out p vl E w (DclV (From w.heap.size)) (decl E f i)):=by
 have hp1:=hP.lt
 have hfew:=hP.few
 have hi2:i ≤ 65536:=Nat.le_trans hP.le hfew
 obtain ⟨Rr,hRr⟩:∃ Rr,decl E f i=Rr:=⟨_,rfl⟩
 rw [hRr] at hne ⊢
 have HNE:=Lib.hid hne
 have hmf:∀ (fn:Fn) (first cap:Array Value) (w:World),(Instr.makeFunc fn first cap).run Tryz.prog w=.ok (.func fn first cap) w:=fun _ _ _ _=>rfl
 have hfd:=field_tok3
 unfold decl at hRr
 have hkl:kindOf E i ≠ 0→i < E.L.length:=fun h=>kind_lt (E:=E) (fun h0=>h (by unfold kindOf;rw [if_neg (by omega)]))
 obtain ⟨kd,hkd⟩:∃ kd,kindOf E i=kd:=⟨_,rfl⟩
 have hk9:kd < 9:=by
  rw [← hkd];unfold kindOf
  split
  ·simp only
   split <;> omega
  ·omega
 obtain ⟨t,ht⟩:∃ t,tokAt E i=t:=⟨_,rfl⟩
 rw [hkd] at hkl
 rw [hkd,placeAt_tok,ht] at hRr
 have HKL:=Lib.hid hkl
 have HKD:=Lib.hid hkd
 have HTK:=Lib.hid ht
 clear hkl hkd ht
 have HPq:=Lib.hid hP
 have HFq:=Lib.hid (Fp.refl p w)
 clear hP hne
 have hba:Below w.heap.size w (w.alloc (.cells #[.int .i64 0,.string ⟨#[]⟩,.slice none 0 0,.int .i64 0] 50)):=(Below.refl _ _).alloc (Nat.le_refl _) _
 have hbn:=Holds.new w 50 #[.int .i64 0,.string ⟨#[]⟩,.slice none 0 0,.int .i64 0]
 have HP11:=Lib.hid (HPq.out.belowAll hba)
 have HF11:=Lib.hid (HFq.out.bel hba)
 clear HPq HFq
 have HR11:=Lib.hid hbn
 clear hbn
 clear hba
 go_enter Tryz.func57,Tryz.ntmps57
 have hC:=wordFn HP11.out 0 (by omega)
 rw [Nat.add_zero,HTK.out] at hC
 unfold tokV at hC
 have HC:=Lib.hid hC
 clear hC
 have HQ:=Lib.hid hRr
 clear hRr
 go_wp2_with (fail)
 have hRr:=HQ.out
 clear HQ
 refine (HC.out).mono ?_
 rintro e w12 ⟨rfl,hbq⟩
 have HP12:=Lib.hid (HP11.out.belowAll hbq)
 have HF12:=Lib.hid (HF11.out.bel hbq)
 have HR12:=Lib.hid (HR11.out.belowAll hbq)
 clear HP11 HF11 HR11
 clear hbq HC
 have hC:=kindFn HP12.out
 rw [HKD.out] at hC
 have HC:=Lib.hid hC
 clear hC
 have HQ:=Lib.hid hRr
 clear hRr
 go_wp2_with (fail)
 have hRr:=HQ.out
 clear HQ
 refine (HC.out).mono ?_
 rintro e w13 ⟨rfl,hbq⟩
 have HP13:=Lib.hid (HP12.out.belowAll hbq)
 have HF13:=Lib.hid (HF12.out.bel hbq)
 have HR13:=Lib.hid (HR12.out.belowAll hbq)
 clear HP12 HF12 HR12
 clear hbq HC
 have hszD:w.heap.size < w13.heap.size:=HR13.out.lt
 have hba:Below w13.heap.size w13 (w13.alloc (.cells #[.int .i64 (kd:Int),.string ⟨#[]⟩,.slice none 0 0,.int .i64 (t.at_:Int)] 50)):=(Below.refl _ _).alloc (Nat.le_refl _) _
 have hbn:=Holds.new w13 50 #[.int .i64 (kd:Int),.string ⟨#[]⟩,.slice none 0 0,.int .i64 (t.at_:Int)]
 have HP14:=Lib.hid (HP13.out.belowAll hba)
 have HF14:=Lib.hid (HF13.out.bel hba)
 have HR14:=Lib.hid (HR13.out.belowAll hba)
 clear HP13 HF13 HR13
 have HD14:=Lib.hid hbn
 clear hbn
 clear hba
 by_cases hk0:0 < kd
 ·rw [if_pos hk0] at hRr
  have hk1:decide (0 < (kd:Int))=true:=decide_eq_true (by omega)
  have hk2:(0 < (kd:Int)):=by omega
  have HLT:=Lib.hid (HKL.out (by omega))
  have y15:=HD14.out.cell
  have y16:=HD14.out.free
  obtain ⟨c0,c1,c2,f2⟩:=HP14.out.cells
  have HQ:=Lib.hid hRr
  clear hRr
  go_wp2_with (refine wpList_store1 rfl 3 _ _ rfl p 2 (.int .i64 ((i:Int) + 1)) rfl rfl HP14.out.at_ (by simp) sz_int rfl rfl ?_)
  refine Named.mk (fun w17 hW17=>?_)
  have hRr:=HQ.out
  clear HQ c0 c1 c2 f2 y15 y16
  have hPy:Par (setR (w13.alloc (.cells #[.int .i64 (kd:Int),.string ⟨#[]⟩,.slice none 0 0,.int .i64 (t.at_:Int)] 50)) p 2 [(.int .i64 ((i:Int) + 1))]) p vl E (i + 1):=HP14.out.set (j:=i + 1) HLT.out
  have hFy:Fp p w (setR (w13.alloc (.cells #[.int .i64 (kd:Int),.string ⟨#[]⟩,.slice none 0 0,.int .i64 (t.at_:Int)] 50)) p 2 [(.int .i64 ((i:Int) + 1))]):=HF14.out.set 2 (.int .i64 ((i:Int) + 1))
  have hyR:=Holds.farR (b':=p) (by omega) [(.int .i64 ((i:Int) + 1))] 2 HR14.out
  have hyD:=Holds.farR (b':=p) (by omega) [(.int .i64 ((i:Int) + 1))] 2 HD14.out
  rw [← hW17] at hPy hFy hyR hyD
  have HP17:=Lib.hid hPy
  have HF17:=Lib.hid hFy
  have HR17:=Lib.hid hyR
  have HD17:=Lib.hid hyD
  clear hW17 hPy hFy hyR hyD HP14 HF14 HR14 HD14
  have hszL:w13.heap.size < w17.heap.size:=HD17.out.lt
  have HC':=listDvrFn f (fun k=>ivar E f k) _ _ _ HP17.out oneIvar (fun i a k h=>Nat.le_of_lt (ivar_adv i a k h).1) (fun h=>by rw [h] at hRr;exact HNE.out hRr.symm)
  have HCx:=Lib.hid HC'
  clear HC'
  have HQ:=Lib.hid hRr
  clear hRr
  go_wp2_with (fail)
  have hRr:=HQ.out
  clear HQ
  have HC':=HCx.out
  clear HCx
  cases h1:many E (fun k=>ivar E f k) f (i + 1) with
  | out=>exact absurd h1 (fun h=>by rw [h] at hRr;exact HNE.out hRr.symm)
  | bad c a=>
   rw [h1] at HC' hRr
   refine HC'.mono ?_
   rintro e wz ⟨rfl,hF⟩
   rw [← (show _=_ from hRr)]
   exact ⟨rfl,rfl,HF17.out.trans hF⟩
  | ok l j9=>
   rw [h1] at HC' hRr
   have HC:=Lib.hid HC'
   clear h1 HC' 
   try simp only [bd_ok] at hRr
   refine (HC.out).mono ?_
   rintro e w18 ⟨vw18,rfl,hv,hPq,hFq⟩
   have HP18:=Lib.hid hPq
   have HF18:=Lib.hid (HF17.out.trans hFq)
   have HR18:=Lib.hid (HR17.out.fp hFq (by omega))
   have HD18:=Lib.hid (HD17.out.fp hFq (by omega))
   clear HP17 HF17 HR17 HD17
   clear hPq hFq HC
   obtain ⟨ff,hr,hf⟩:=hv
   obtain ⟨fa,fc,hvf,_⟩:=hr.form
   subst hvf
   have HVl18:=Lib.hid ((show DvsV (From w17.heap.size) w18 _ _ from ⟨ff,hr,hf⟩).mono (Q:=fun k=>w.heap.size + 1 ≤ k∧k ≠ w13.heap.size) (fun k hk hs=>by have h:_ ≤ k:=hk;exact ⟨by omega,by omega⟩))
   clear hr hf
   have HQ:=Lib.hid hRr
   clear hRr
   go_wp2_with (refine wpList_store1 rfl 48 _ _ rfl (w13.heap.size) 2 (.slice fa l.length fc) rfl rfl HD18.out (by simp) sz_DVars rfl rfl ?_)
   refine Named.mk (fun w19 hW19=>?_)
   have hRr:=HQ.out
   clear HQ 
   obtain ⟨L19,hL19⟩:∃ L:List Value,L=[.slice fa l.length fc]:=⟨_,rfl⟩
   rw [← hL19] at hW19
   have HP19:Hid (Par w19 p vl E (j9)):=by rw [hW19];exact Par.setR (by omega) L19 2 HP18.out
   have HF19:Hid (Fp p w w19):=by rw [hW19];exact Fp.setR (by omega) L19 2 HF18.out
   have hb19:=Holds.farR (b':=w13.heap.size) (by omega) L19 2 HR18.out
   rw [← hW19] at hb19
   have HR19:=Lib.hid hb19
   clear hb19
   have hb19:=HD18.out.stored hW19 (by rw [hL19];simp)
   rw [hL19] at hb19
   have HD19:Hid (Holds w19 (w13.heap.size) 50 [.int .i64 (kd:Int),.string ⟨#[]⟩,.slice fa l.length fc,.int .i64 (t.at_:Int)]):=hb19
   clear hb19
   have hb19:=HVl18.out.up (Keep.setR (b:=w13.heap.size) (fun h=>h.2 rfl) L19 2)
   rw [← hW19] at hb19
   have HVl19:=Lib.hid hb19
   clear hb19
   clear hW19 hL19 HP18 HF18 HR18 HD18 HVl18
   have HZ:=Lib.hid hRr
   clear hRr hmf hfd
   go_wp2_with (first | (refine wpList_load_mid rfl 50 _ rfl (w13.heap.size) 0 rfl [.int .i64 (kd:Int),.string ⟨#[]⟩,.slice fa l.length fc,.int .i64 (t.at_:Int)] _ (HD19.out.range (n:=4) rfl) Tryz.underlying50 rfl sz_Dcl ?_) | (refine wpList_storeB rfl 50 _ _ rfl (w.heap.size) 0 [.int .i64 (kd:Int),.string ⟨#[]⟩,.slice fa l.length fc,.int .i64 (t.at_:Int)] rfl rfl HR19.out (by simp) sz_Dcl (by simp [Value.oneCell']) ?_))
   refine Named.mk (fun wf hWf=>?_)
   go_wp2
   have hh:=HR19.out.stored hWf (by simp)
   refine bodyPost_ret (outBox Tryz.results57 hh rfl _ Tryz.underlying50 rfl sz_Dcl) rfl ?_
   rw [← HZ.out,hWf]
   refine ⟨_,rfl,⟨_,rfl,⟨_,rfl,?_⟩⟩,Par.setR (by omega) _ _ HP19.out,Fp.setR (Nat.le_refl _) _ _ HF19.out⟩
   exact (HVl19.out.up (Keep.setR (by show ¬ _;omega) _ _)).mono (fun k hk _=>by have:=hk.1;show _ ≤ k;omega)
 ·rw [if_neg hk0] at hRr
  have hk1:decide (0 < (kd:Int))=false:=decide_eq_false (by omega)
  have y21:=HD14.out.cell
  have y22:=HD14.out.free
  have HC':=idFn HP14.out
  have HCx:=Lib.hid HC'
  clear HC'
  have HQ:=Lib.hid hRr
  clear hRr
  go_wp2_with (fail)
  clear y21 y22
  have hRr:=HQ.out
  clear HQ
  have HC':=HCx.out
  clear HCx
  cases h1:pid E i with
  | out=>exact absurd h1 pid_ne
  | bad c a=>
   rw [h1] at HC' hRr
   refine HC'.mono ?_
   rintro e wz ⟨rfl,hF⟩
   rw [← (show _=_ from hRr)]
   exact ⟨rfl,rfl,HF14.out.trans hF⟩
  | ok s j2=>
   rw [h1] at HC' hRr
   have HC:=Lib.hid HC'
   clear h1 HC' 
   try simp only [bd_ok] at hRr
   refine (HC.out).mono ?_
   rintro e w20 ⟨vw20,rfl,hv,hPq,hFq⟩
   have HP20:=Lib.hid hPq
   have HF20:=Lib.hid (HF14.out.trans hFq)
   have HR20:=Lib.hid (HR14.out.fp hFq (by omega))
   have HD20:=Lib.hid (HD14.out.fp hFq (by omega))
   clear HP14 HF14 HR14 HD14
   clear hPq hFq HC
   obtain rfl:=hv
   have hsz5:w13.heap.size < w20.heap.size:=HD20.out.lt
   have HQ:=Lib.hid hRr
   clear hRr
   go_wp2_with (refine wpList_store1 rfl 3 _ _ rfl (w13.heap.size) 0 (.int .i64 (-1)) rfl rfl HD20.out (by simp) sz_int rfl rfl ?_)
   refine Named.mk (fun w23 hW23=>?_)
   have hRr:=HQ.out
   clear HQ 
   obtain ⟨L23,hL23⟩:∃ L:List Value,L=[.int .i64 (-1)]:=⟨_,rfl⟩
   rw [← hL23] at hW23
   have HP23:Hid (Par w23 p vl E (j2)):=by rw [hW23];exact Par.setR (by omega) L23 0 HP20.out
   have HF23:Hid (Fp p w w23):=by rw [hW23];exact Fp.setR (by omega) L23 0 HF20.out
   have hb23:=Holds.farR (b':=w13.heap.size) (by omega) L23 0 HR20.out
   rw [← hW23] at hb23
   have HR23:=Lib.hid hb23
   clear hb23
   have hb23:=HD20.out.stored hW23 (by rw [hL23];simp)
   rw [hL23] at hb23
   have HD23:Hid (Holds w23 (w13.heap.size) 50 [.int .i64 (-1),.string ⟨#[]⟩,.slice none 0 0,.int .i64 (t.at_:Int)]):=hb23
   clear hb23
   clear hW23 hL23 HP20 HF20 HR20 HD20
   have HQ:=Lib.hid hRr
   clear hRr
   go_wp2_with (refine wpList_store1 rfl 9 _ _ rfl (w13.heap.size) 1 (.string ⟨s.toArray⟩) rfl rfl HD23.out (by simp) sz_string rfl rfl ?_)
   refine Named.mk (fun w24 hW24=>?_)
   have hRr:=HQ.out
   clear HQ 
   obtain ⟨L24,hL24⟩:∃ L:List Value,L=[.string ⟨s.toArray⟩]:=⟨_,rfl⟩
   rw [← hL24] at hW24
   have HP24:Hid (Par w24 p vl E (j2)):=by rw [hW24];exact Par.setR (by omega) L24 1 HP23.out
   have HF24:Hid (Fp p w w24):=by rw [hW24];exact Fp.setR (by omega) L24 1 HF23.out
   have hb24:=Holds.farR (b':=w13.heap.size) (by omega) L24 1 HR23.out
   rw [← hW24] at hb24
   have HR24:=Lib.hid hb24
   clear hb24
   have hb24:=HD23.out.stored hW24 (by rw [hL24];simp)
   rw [hL24] at hb24
   have HD24:Hid (Holds w24 (w13.heap.size) 50 [.int .i64 (-1),.string ⟨s.toArray⟩,.slice none 0 0,.int .i64 (t.at_:Int)]):=hb24
   clear hb24
   clear hW24 hL24 HP23 HF23 HR23 HD23
   have hszL:w13.heap.size < w24.heap.size:=HD24.out.lt
   have HC':=listDvrFn f (fun k=>ivar E f k) _ _ _ HP24.out oneIvar (fun i a k h=>Nat.le_of_lt (ivar_adv i a k h).1) (fun h=>by rw [h] at hRr;exact HNE.out hRr.symm)
   have HCx:=Lib.hid HC'
   clear HC'
   have HQ:=Lib.hid hRr
   clear hRr
   go_wp2_with (fail)
   have hRr:=HQ.out
   clear HQ
   have HC':=HCx.out
   clear HCx
   cases h1:many E (fun k=>ivar E f k) f j2 with
   | out=>exact absurd h1 (fun h=>by rw [h] at hRr;exact HNE.out hRr.symm)
   | bad c a=>
    rw [h1] at HC' hRr
    refine HC'.mono ?_
    rintro e wz ⟨rfl,hF⟩
    rw [← (show _=_ from hRr)]
    exact ⟨rfl,rfl,HF24.out.trans hF⟩
   | ok l j9=>
    rw [h1] at HC' hRr
    have HC:=Lib.hid HC'
    clear h1 HC' 
    try simp only [bd_ok] at hRr
    refine (HC.out).mono ?_
    rintro e w25 ⟨vw25,rfl,hv,hPq,hFq⟩
    have HP25:=Lib.hid hPq
    have HF25:=Lib.hid (HF24.out.trans hFq)
    have HR25:=Lib.hid (HR24.out.fp hFq (by omega))
    have HD25:=Lib.hid (HD24.out.fp hFq (by omega))
    clear HP24 HF24 HR24 HD24
    clear hPq hFq HC
    obtain ⟨ff,hr,hf⟩:=hv
    obtain ⟨fa,fc,hvf,_⟩:=hr.form
    subst hvf
    have HVl25:=Lib.hid ((show DvsV (From w24.heap.size) w25 _ _ from ⟨ff,hr,hf⟩).mono (Q:=fun k=>w.heap.size + 1 ≤ k∧k ≠ w13.heap.size) (fun k hk hs=>by have h:_ ≤ k:=hk;exact ⟨by omega,by omega⟩))
    clear hr hf
    have HQ:=Lib.hid hRr
    clear hRr
    go_wp2_with (refine wpList_store1 rfl 48 _ _ rfl (w13.heap.size) 2 (.slice fa l.length fc) rfl rfl HD25.out (by simp) sz_DVars rfl rfl ?_)
    refine Named.mk (fun w26 hW26=>?_)
    have hRr:=HQ.out
    clear HQ 
    obtain ⟨L26,hL26⟩:∃ L:List Value,L=[.slice fa l.length fc]:=⟨_,rfl⟩
    rw [← hL26] at hW26
    have HP26:Hid (Par w26 p vl E (j9)):=by rw [hW26];exact Par.setR (by omega) L26 2 HP25.out
    have HF26:Hid (Fp p w w26):=by rw [hW26];exact Fp.setR (by omega) L26 2 HF25.out
    have hb26:=Holds.farR (b':=w13.heap.size) (by omega) L26 2 HR25.out
    rw [← hW26] at hb26
    have HR26:=Lib.hid hb26
    clear hb26
    have hb26:=HD25.out.stored hW26 (by rw [hL26];simp)
    rw [hL26] at hb26
    have HD26:Hid (Holds w26 (w13.heap.size) 50 [.int .i64 (-1),.string ⟨s.toArray⟩,.slice fa l.length fc,.int .i64 (t.at_:Int)]):=hb26
    clear hb26
    have hb26:=HVl25.out.up (Keep.setR (b:=w13.heap.size) (fun h=>h.2 rfl) L26 2)
    rw [← hW26] at hb26
    have HVl26:=Lib.hid hb26
    clear hb26
    clear hW26 hL26 HP25 HF25 HR25 HD25 HVl25
    have HZ:=Lib.hid hRr
    clear hRr hmf hfd
    go_wp2_with (first | (refine wpList_load_mid rfl 50 _ rfl (w13.heap.size) 0 rfl [.int .i64 (-1),.string ⟨s.toArray⟩,.slice fa l.length fc,.int .i64 (t.at_:Int)] _ (HD26.out.range (n:=4) rfl) Tryz.underlying50 rfl sz_Dcl ?_) | (refine wpList_storeB rfl 50 _ _ rfl (w.heap.size) 0 [.int .i64 (-1),.string ⟨s.toArray⟩,.slice fa l.length fc,.int .i64 (t.at_:Int)] rfl rfl HR26.out (by simp) sz_Dcl (by simp [Value.oneCell']) ?_))
    refine Named.mk (fun wf hWf=>?_)
    go_wp2
    have hh:=HR26.out.stored hWf (by simp)
    refine bodyPost_ret (outBox Tryz.results57 hh rfl _ Tryz.underlying50 rfl sz_Dcl) rfl ?_
    rw [← HZ.out,hWf]
    refine ⟨_,rfl,⟨_,rfl,⟨_,rfl,?_⟩⟩,Par.setR (by omega) _ _ HP26.out,Fp.setR (Nat.le_refl _) _ _ HF26.out⟩
    exact (HVl26.out.up (Keep.setR (by show ¬ _;omega) _ _)).mono (fun k hk _=>by have:=hk.1;show _ ≤ k;omega)
end Go.Proofs.YtpoghableadkcaaGreatDoor
end
section
/- The walk of decls (printed by mkdcs.py). -/
namespace Go.Proofs.YtpoghableadkcaaGreatDoor
open Go.RowKit
set_option linter.unusedVariables false
set_option linter.unusedSimpArgs false

theorem listDcl_info:(Tryz.prog.info? 50).map (fun i=>(i.zero.map fun z=>z.cells.size,i.size,i.bytes))=some (some 4,4,56):=by kernel_rfl
theorem semis_no {E:Env} {j:Nat} (h:sees E j [[59]]=false):∀ n,semis E n j=j
 | 0=>rfl
 | n + 1=>by rw [semis,if_neg (by rw [h];decide)]
theorem semis_yes {E:Env} {j n:Nat} (h:sees E j [[59]]=true):semis E (n + 1) j=semis E n (j + 1):=by rw [semis,if_pos h]
/-- What follows a declaration. -/
def declsTl (E:Env) (f:Nat) (stop:Bs) (g:Nat) (acc:List Dcl) (j:Nat):R (List Dcl):=
 if !sees E j [[59]] || sees E (semis E E.L.length j) [stop] then .ok acc (semis E E.L.length j) else (decls E f stop g (semis E E.L.length j)).bd fun l k=>.ok (acc ++ l) k
theorem declsTl_succ {E:Env} {f g j:Nat} {stop:Bs} {acc:List Dcl} (h1:sees E j [[59]]=true) (h2:sees E (semis E E.L.length j) [stop]=false):declsTl E f stop (g + 1) acc j=(decl E f (semis E E.L.length j)).bd fun d k=>declsTl E f stop g (acc ++ [d]) k:=by
 unfold declsTl
 rw [if_neg (by rw [h1,h2];decide),decls,bd_bd]
 congr 1
 funext d k
 split
 ·rfl
 ·rw [bd_bd];simp only [bd_ok,List.append_assoc,List.singleton_append]
theorem decl_adv {E:Env} {f:Nat}:∀ i a k,decl E f i=.ok a k→i < k∧k ≤ E.L.length:=fun i a k h=>by
 unfold decl at h
 split at h
 ·have h1:To (i + 1) (R.bd (many E (ivar E f) f (i + 1)) fun l j=>R.ok (⟨(kindOf E i:Int),[],l,placeAt E i⟩:Dcl) j):=To.bd fun l j hj=>To.ok (by have:=(many_pos' ivar_adv hj).1;omega)
  have h2:Tp E (R.bd (many E (ivar E f) f (i + 1)) fun l j=>R.ok (⟨(kindOf E i:Int),[],l,placeAt E i⟩:Dcl) j):=Tp.bd fun l j hj=>Tp.ok (many_pos' ivar_adv hj).2
  exact ⟨h1 _ _ h,h2 _ _ h⟩
 ·have h1:To (i + 1) (R.bd (pid E i) fun n j=>R.bd (many E (ivar E f) f j) fun l k=>R.ok (⟨-1,n,l,placeAt E i⟩:Dcl) k):=To.bd fun n j hj=>To.bd fun l k hk=>To.ok (by have:=pid_pos hj;have:=(many_pos' ivar_adv hk).1;omega)
  have h2:Tp E (R.bd (pid E i) fun n j=>R.bd (many E (ivar E f) f j) fun l k=>R.ok (⟨-1,n,l,placeAt E i⟩:Dcl) k):=Tp.bd fun n j hj=>Tp.bd fun l k hk=>Tp.ok (many_pos' ivar_adv hk).2
  exact ⟨h1 _ _ h,h2 _ _ h⟩
theorem DclF.one {P:Nat→Prop} {w:World} {d:Dcl} {a:Option Addr} {n c:Nat} {f:List Value} (h:RowL P w 23 (.slice a n c) d.vars.length f) (hf:DvsF P w d.vars f):DclF P w d [.int .i64 d.type,.string ⟨d.named.toArray⟩,.slice a n c,.int .i64 (d.at_:Int)]:=⟨_,rfl,f,h,hf⟩

set_option maxHeartbeats 4000000 in
set_option maxRecDepth 100000 in
theorem declsFn {E:Env} {f g:Nat} (stop:Bs) {w:World} {p i:Nat} {vl:Value} (hP:Par w p vl E i) (hne:decls E f stop g i ≠ .out):
  Calls Tryz.prog 53 #[.pointer (some ⟨p,0,none⟩),.string ⟨stop.toArray⟩] w (Out p vl E w (DclsV (From w.heap.size)) (decls E f stop g i)):=by
 have hp1:=hP.lt
 have HP:=Lib.hid hP
 obtain ⟨Rr,hRr⟩:∃ Rr,decls E f stop g i=Rr:=⟨_,rfl⟩
 rw [hRr] at hne ⊢
 have HNE:=Lib.hid hne
 cases g with
 | zero=>exact absurd (hRr.symm.trans (by rw [decls])) HNE.out
 | succ g=>
 rw [decls] at hRr
 clear hP hne
 have hne1:decl E f i ≠ .out:=fun h=>by rw [h] at hRr;exact HNE.out hRr.symm
 have HC0:=Lib.hid (declFn HP.out hne1)
 have HQ:=Lib.hid hRr
 clear hRr
 go_enter Tryz.func53,Tryz.ntmps53
 go_wp2_with (fail)
 have hRr:=HQ.out
 have HC':=HC0.out
 clear HQ HC0
 cases h1:decl E f i with
 | out=>exact absurd h1 hne1
 | bad c a=>
  rw [h1] at HC' hRr
  refine HC'.mono ?_
  rintro e wz ⟨rfl,hF⟩
  rw [← (show _=_ from hRr)]
  exact ⟨rfl,rfl,hF⟩
 | ok a k=>
  rw [h1] at HC' hRr
  have hRr':declsTl E f stop g [a] k=Rr:=hRr
  have HR:=Lib.hid hRr'
  have HC:=Lib.hid HC'
  clear h1 HC' hRr hRr' hne1
  refine (HC.out).mono ?_
  rintro e w1 ⟨v,rfl,hv,hP1,hF1⟩
  obtain ⟨c,rfl,vv,rfl,ff,hr,hf⟩:=hv;obtain ⟨da,dc,rfl,_⟩:=hr.form
  have hv1:DclsF (From w.heap.size) w1 [a] #[.int .i64 a.type,.string ⟨a.named.toArray⟩,.slice da a.vars.length dc,.int .i64 (a.at_:Int)].toList:=LsF.sing (DclF.one hr hf)
  have hsz1:=hF1.size
  have hb1:Below w1.heap.size w1 (w1.alloc (.cells #[.int .i64 a.type,.string ⟨a.named.toArray⟩,.slice da a.vars.length dc,.int .i64 (a.at_:Int)] 50)):=(Below.refl _ _).alloc (Nat.le_refl _) _
  have HL1:=Lib.hid (owns_lit (base:=w.heap.size) (Holds.new w1 50 #[.int .i64 a.type,.string ⟨a.named.toArray⟩,.slice da a.vars.length dc,.int .i64 (a.at_:Int)]) hsz1 (by rfl) (by simp))
  have HP1:=Lib.hid (hP1.belowAll hb1)
  have HF1:=Lib.hid (hF1.bel hb1)
  have HE1:=Lib.hid ((DclsF.mono (Wide.new (base:=w.heap.size) (v:=.slice (some ⟨w1.heap.size,0,none⟩) 1 1) rfl (Nat.le_refl _)) [a] hv1).up (Keep.below hb1) [a])
  clear hr hf hv1 hP1 hF1 hb1 hsz1
  go_wp2
  go_loopg [5] g (fun gk v wr=>∃ (acc:List Dcl) (flat:List Value) (j:Nat),j ≤ 65536∧acc.length ≤ j + 1∧Hid (declsTl E f stop gk acc j=Rr)∧Hid (wr.ownsRow w.heap.size 50 4 v acc.length flat)∧Hid (DclsF (But w.heap.size v) wr acc flat)∧Hid (Par wr p vl E j)∧Hid (Fp p w wr))
  case atStart=>exact ⟨[a],_,k,Nat.le_trans HP1.out.le HP1.out.few,by simp,HR,HL1,HE1,HP1,HF1⟩
  case round=>
   clear HR HL1 HE1 HP1 HF1 HC HP
   obtain ⟨acc,flat,j,hj,hacc,HR,HL,HE,HP,HF⟩:=hrel
   obtain ⟨gq,rfl⟩:∃ n,n=gk:=⟨gk,rfl⟩
   obtain ⟨va,vc,hva,_⟩:=owns_form HL.out
   subst hva
   go_wp2
   go_loopw [6] (fun x wx=>∃ (j2:Nat) (sm:Bool),x=.bool sm∧j ≤ j2∧j2 ≤ 65536∧Hid (semis E E.L.length j=semis E (E.L.length - (j2 - j)) j2)∧Hid ((j2=j∧sm=false)∨(j < j2∧sm=true∧sees E j [[59]]=true))∧Hid (wx.ownsRow w.heap.size 50 4 (.slice va acc.length vc) acc.length flat)∧Hid (DclsF (But w.heap.size (.slice va acc.length vc)) wx acc flat)∧Hid (Par wx p vl E j2)∧Hid (Fp p w wx)) (fun _ wx=>(70000 - intOf ((wx.cell? ⟨p,2,none⟩).getD undef)).toNat)
   case atStart=>exact ⟨j,false,rfl,Nat.le_refl _,hj,by show _=_;rw [Nat.sub_self,Nat.sub_zero],.inl ⟨rfl,rfl⟩,HL,HE,HP,HF⟩
   case round=>
    clear HL HE HP HF
    obtain ⟨j2,sm,hx,hj2,hj65,HSM,HCs,HL,HE,HP,HF⟩:=hrel
    subst hx
    have hb0:Below wr.heap.size wr (wr.alloc (.cells #[.string ⟨#[59]⟩] 9)):=(Below.refl _ _).alloc (Nat.le_refl _) _
    have HPa:=Lib.hid (HP.out.belowAll hb0)
    have HCm:=Lib.hid (Holds.new wr 9 #[.string ⟨#[59]⟩])
    have HFa:=Lib.hid (HF.out.bel hb0)
    have HLa:=Lib.hid (owns_below HL.out hb0)
    have HEa:=Lib.hid (HE.out.up (Keep.below hb0) acc)
    have HP0:=HP
    clear hb0 HP HF HL HE
    cases hs:sees E j2 [[59]] with
    | true=>
     have HS:=Lib.hid hs
     have HT:=Lib.hid (takes_yes HPa.out [[59]] HCm.out (by simp) hs)
     clear hs
     go_wp2_with (fail)
     refine (HT.out).mono ?_
     rintro e w3 ⟨rfl,hP3,hF3⟩
     have HP3:=Lib.hid hP3
     have HL3:=Lib.hid (owns_fp HLa.out hF3 hp1)
     have HE3:=Lib.hid (HEa.out.up (Keep.fp hF3 hp1) acc)
     have HF3:=Lib.hid (HFa.out.trans hF3)
     have hj3:=Nat.le_trans hP3.le hP3.few
     clear hP3 hF3 HT HPa HLa HEa HFa HCm
     go_wp2
     refine ⟨⟨j2 + 1,true,rfl,by omega,hj3,?_,?_,HL3,HE3,HP3,HF3⟩,?_⟩
     ·have hlt:=sees_lt HS.out
      show _=_
      rw [HSM.out,show E.L.length - (j2 - j)=(E.L.length - (j2 + 1 - j)) + 1 by omega,semis_yes HS.out]
     ·refine .inr ⟨by omega,rfl,?_⟩
      rcases HCs.out with h | h
      ·rw [← h.1];exact HS.out
      ·exact h.2.2
     ·rw [HP3.out.cells.2.2.1,HP0.out.cells.2.2.1]
      simp [intOf]
      omega
    | false=>
     have hsm:semis E E.L.length j=j2:=by rw [HSM.out,semis_no hs]
     have HSJ:=Lib.hid hsm
     have HS:=Lib.hid hs
     have HT:=Lib.hid (takes_no HPa.out [[59]] HCm.out (by simp) hs)
     clear hs hsm HSM
     cases sm with
     | false=>
      have hRj:R.ok acc j2=Rr:=by
       rw [← HR.out]
       unfold declsTl
       have h:sees E j [[59]]=false:=by
        rcases HCs.out with h | h
        ·rw [← h.1];exact HS.out
        ·cases h.2.1
       rw [if_pos (by rw [h];rfl),HSJ.out]
      have HRj:=Lib.hid hRj
      clear hRj
      go_wp2_with (fail)
      refine (HT.out).mono ?_
      rintro e w3 ⟨rfl,hb⟩
      have hPost:Out p vl E w (DclsV (From w.heap.size)) Rr (.returned (.slice va acc.length vc)) w3:=by
       rw [← HRj.out]
       exact ⟨_,rfl,⟨flat,RowL.of_owns (owns_below HLa.out hb) (fun k hk=>hk),(DclsF.mono Wide.of_but acc HEa.out).up (Keep.below hb) acc⟩,HPa.out.belowAll hb,HFa.out.bel hb⟩
      have HPost:=Lib.hid hPost
      clear hb hPost HT
      go_wp2
      go_ret
      exact HPost.out
     | true=>
      have hsj:sees E j [[59]]=true:=by
       rcases HCs.out with h | h
       ·cases h.2
       ·exact h.2.2
      have HSj:=Lib.hid hsj
      clear hsj
      go_wp2_with (fail)
      refine (HT.out).mono ?_
      rintro e w3 ⟨rfl,hb⟩
      have hb3:Below w3.heap.size w3 (w3.alloc (.cells #[.string ⟨stop.toArray⟩] 9)):=(Below.refl _ _).alloc (Nat.le_refl _) _
      have HPb:=Lib.hid ((HPa.out.belowAll hb).belowAll hb3)
      have HCm2:=Lib.hid (Holds.new w3 9 #[.string ⟨stop.toArray⟩])
      have HFb:=Lib.hid ((HFa.out.bel hb).bel hb3)
      have HLb:=Lib.hid (owns_below (owns_below HLa.out hb) hb3)
      have HEb:=Lib.hid ((HEa.out.up (Keep.below hb) acc).up (Keep.below hb3) acc)
      clear hb hb3 HT HPa HLa HEa HFa HCm HP0
      have hT:=sees0 HPb.out [stop] HCm2.out (by simp)
      cases hs2:sees E j2 [stop] with
      | true=>
       rw [hs2] at hT
       have HT:=Lib.hid hT
       have hRj:R.ok acc j2=Rr:=by
        rw [← HR.out]
        unfold declsTl
        rw [if_pos (by rw [HSJ.out,hs2,Bool.or_true]),HSJ.out]
       have HRj:=Lib.hid hRj
       clear hRj hT hs2
       go_wp2_with (fail)
       refine (HT.out).mono ?_
       rintro e w4 ⟨rfl,hb⟩
       have hPost:Out p vl E w (DclsV (From w.heap.size)) Rr (.returned (.slice va acc.length vc)) w4:=by
        rw [← HRj.out]
        exact ⟨_,rfl,⟨flat,RowL.of_owns (owns_below HLb.out hb) (fun k hk=>hk),(DclsF.mono Wide.of_but acc HEb.out).up (Keep.below hb) acc⟩,HPb.out.belowAll hb,HFb.out.bel hb⟩
       have HPost:=Lib.hid hPost
       clear hb hPost HT
       go_wp2
       go_ret
       exact HPost.out
      | false=>
       rw [hs2] at hT
       have HT:=Lib.hid hT
       cases gq with
       | zero=>
        have h:=HR.out
        unfold declsTl at h
        rw [if_neg (by rw [HSj.out,HSJ.out,hs2];decide),decls] at h
        exact absurd h.symm HNE.out
       | succ gk=>
        have hRj:=HR.out
        rw [declsTl_succ HSj.out (by rw [HSJ.out];exact hs2),HSJ.out] at hRj
        have HRj:=Lib.hid hRj
        clear hRj hT hs2 HR
        have hne2:decl E f j2 ≠ .out:=fun h=>by have h2:=HRj.out;rw [h] at h2;exact HNE.out h2.symm
        go_wp2_with (fail)
        refine (HT.out).mono ?_
        rintro e w4 ⟨rfl,hb⟩
        have HP4:=Lib.hid (HPb.out.belowAll hb)
        have HL4:=Lib.hid (owns_below HLb.out hb)
        have HE4:=Lib.hid (HEb.out.up (Keep.below hb) acc)
        have HF4:=Lib.hid (HFb.out.bel hb)
        have HC':=declFn HP4.out hne2
        clear hb HT HPb HLb HEb HFb HCm2
        cases h1:decl E f j2 with
        | out=>exact absurd h1 hne2
        | bad c a=>
         have hRq:=HRj.out
         rw [h1] at HC' hRq
         have HC:=Lib.hid HC'
         have HRq:=Lib.hid hRq
         clear h1 HC' hRq hne2
         go_wp2_with (fail)
         refine (HC.out).mono ?_
         rintro e wz ⟨rfl,hF⟩
         rw [← (show _=_ from HRq.out)]
         exact ⟨rfl,rfl,HF4.out.trans hF⟩
        | ok a2 k2=>
         have hRq:=HRj.out
         have hk2:=(decl_adv _ _ _ h1).1
         rw [h1] at HC' hRq
         have HC:=Lib.hid HC'
         have HRk:Hid (declsTl E f stop gk (acc ++ [a2]) k2=Rr):=hRq
         clear h1 HC' hRq hne2 HRj
         go_wp2_with (fail)
         refine (HC.out).mono ?_
         rintro e w5 ⟨v5,rfl,hv,hP5,hF5⟩
         obtain ⟨c,rfl,vv,rfl,ff,hr,hf⟩:=hv;obtain ⟨da,dc,rfl,_⟩:=hr.form
         have hv1:DclsF (From w4.heap.size) w5 [a2] #[.int .i64 a2.type,.string ⟨a2.named.toArray⟩,.slice da a2.vars.length dc,.int .i64 (a2.at_:Int)].toList:=LsF.sing (DclF.one hr hf)
         have HP5:=Lib.hid hP5
         have HL5:=Lib.hid (owns_fp HL4.out hF5 hp1)
         have hk65:=Nat.le_trans hP5.le hP5.few
         have hsz:=Nat.le_trans HF4.out.size hF5.size
         have HE5:=Lib.hid (DclsF.append (HE4.out.up (Keep.fp hF5 hp1) acc) (DclsF.mono (Wide.but2 (w:=w5) (wr:=w5) (base:=w.heap.size) HF4.out.size (owns_lt HL4.out)) [a2] hv1))
         have HF5:=Lib.hid (HF4.out.trans hF5)
         clear hr hf hv1 hP5 hF5 HC HP4 HL4 HE4 HF4
         obtain ⟨i0,z0,hi0,hz0,hz1,hz2,hz3⟩:=info_of listDcl_info
         have HLb:=Lib.hid (owns_below HL5.out ((Below.refl w5.heap.size w5).alloc (Nat.le_refl _) (.cells #[.int .i64 a2.type,.string ⟨a2.named.toArray⟩,.slice da a2.vars.length dc,.int .i64 (a2.at_:Int)] 50)))
         go_wp2_with (at_builtin;refine wpList_append_own_at _ rfl (.tmp 10) (.tmp 13) _ rfl w.heap.size 50 i0 z0 4 56 Tryz.underlying51 hi0 hz0 hz1 hz2 hz3 (by omega) _ acc.length flat rfl HLb.out ⟨w5.heap.size,0,none⟩ 1 1 #[.int .i64 a2.type,.string ⟨a2.named.toArray⟩,.slice da a2.vars.length dc,.int .i64 (a2.at_:Int)].toList rfl rfl ?c1 ?c2 ?c3 ?c4 ?c5 ?_)
         case c2=>simp [Value.oneCell']
         case c3=>unfold maxLen;omega
         case c4=>omega
         case c5=>have:=hsz;simp;omega
         intro v' w6 hown5 hgrow _ hat
         have hb4:Below w5.heap.size w5 (w5.alloc (.cells #[.int .i64 a2.type,.string ⟨a2.named.toArray⟩,.slice da a2.vars.length dc,.int .i64 (a2.at_:Int)] 50)):=(Below.refl _ _).alloc (Nat.le_refl _) _
         have hat':v'.ownBlock=(Value.slice va acc.length vc).ownBlock∨v'.ownBlock=some (w5.alloc (.cells #[.int .i64 a2.type,.string ⟨a2.named.toArray⟩,.slice da a2.vars.length dc,.int .i64 (a2.at_:Int)] 50)).heap.size:=by simpa using hat
         have HP6:=Lib.hid ((HP5.out.belowAll hb4).grown hgrow (fun g e=>by have:=owns_ge HL5.out g e;omega))
         have HF6:=Lib.hid ((HF5.out.bel hb4).grown hgrow (fun g e=>owns_ge HL5.out g e))
         have HE6:=Lib.hid ((DclsF.mono (Wide.out (w':=w6) hat') (acc ++ [a2]) ((DclsF.mono Wide.in_ (acc ++ [a2]) (HE5.out.up (Keep.below hb4) (acc ++ [a2]))).up ((Keep.grown (base:=w.heap.size) hgrow).imp fun k hk=>hk.1) (acc ++ [a2]))))
         have HL6:Hid (w6.ownsRow w.heap.size 50 4 v' (acc ++ [a2]).length (flat ++ #[.int .i64 a2.type,.string ⟨a2.named.toArray⟩,.slice da a2.vars.length dc,.int .i64 (a2.at_:Int)].toList)):=by
          show World.ownsRow _ _ _ _ _ _ _
          rw [List.length_append]
          exact hown5
         clear hb4 hat hat' hgrow hown5 HLb HE5 HL5 HP5 HF5
         go_wp2
         go_roundg gk
         case measure=>omega
         case rel=>exact ⟨acc ++ [a2],_,k2,hk65,by rw [List.length_append,List.length_singleton];omega,HRk,HL6,HE6,HP6,HF6⟩
end Go.Proofs.YtpoghableadkcaaGreatDoor
end
