/- TopU, Ord, Ltl, joined. -/
import Derived.Test.YtpoghableadkcaaGreatDoorM14
import Derived.Test.YtpoghableadkcaaGreatDoorM04
import Derived.Test.YtpoghableadkcaaGreatDoorM06
import Derived.Test.YtpoghableadkcaaGreatDoorM16
import Derived.Deep.LoopGhost
import Derived.Deep.DeepCutAuto
section
/- Plain laws of units: they end ahead and within; there is fuel enough. -/
namespace Go.Proofs.YtpoghableadkcaaGreatDoor
set_option linter.unusedVariables false
set_option linter.unusedSimpArgs false

theorem braces_lt {E:Env}:∀ (g n i:Nat) (u:Unit) (j:Nat),braces E g n i=.ok u j→j < E.L.length
 | 0,n,i,u,j,h=>by cases h
 | g + 1,n,i,u,j,h=>by
  rw [braces] at h
  split at h
  ·rw [wrong_eq] at h;cases h
  ·split at h
   ·exact braces_lt g _ _ u j h
   ·split at h
    ·split at h
     ·injection h with _ h;omega
     ·exact braces_lt g _ _ u j h
    ·exact braces_lt g _ _ u j h
theorem Bt.braces {E:Env}:∀ (g n i:Nat),Bt E i (braces E g n i)
 | 0,n,i=>Bt.none fun a j h=>by cases h
 | g + 1,n,i=>by
  rw [Go.Proofs.YtpoghableadkcaaGreatDoor.braces]
  by_cases h:E.L.length ≤ i
  ·rw [if_pos h];exact Bt.wrong
  ·rw [if_neg h]
   exact Bt.ite (fun _=>(Bt.braces g _ _).le (by omega)) fun _=>Bt.ite (fun _=>Bt.ite (fun _=>Bt.ok (Nat.le_refl _) (by omega)) fun _=>(Bt.braces g _ _).le (by omega)) fun _=>(Bt.braces g _ _).le (by omega)
theorem Bt.unit {E:Env} {f i:Nat}:Bt E (i + 1) (unitP E f i):=by
 have bt:=btS E f
 unfold unitP
 dsimp only
 refine Bt.ite (fun h=>?_) fun _=>Bt.ite (fun h=>?_) fun _=>Bt.ite (fun h=>?_) fun _=>Bt.ite (fun h=>?_) fun _=>Bt.ite (fun h=>?_) fun _=>Bt.ite (fun h=>?_) fun _=>Bt.ite (fun h=>?_) fun _=>?_
 ·refine Bt.bd fun u j hj=>Bt.bd fun l k hk=>Bt.bd fun u m hm=>?_
  have h1:=Bt.need _ _ hj
  have h2:=Bt.many (fun i=>Bt.pid) _ _ hk
  have h3:=Bt.need _ _ hm
  have h4:i + 1 ≤ (if sees E (i + 1) [[61]]=true then i + 2 else i + 1):=by split <;> omega
  exact Bt.ok (by omega) h3.2
 ·refine Bt.bd fun n j hj=>Bt.bd fun u j2 hj2=>Bt.bd fun l k hk=>Bt.bd fun u m hm=>?_
  have h1:=Bt.pid _ _ hj
  have h2:=Bt.need _ _ hj2
  have h3:=Bt.decls _ _ _ _ hk
  have h4:=Bt.need _ _ hm
  exact Bt.ok (by omega) h4.2
 ·refine Bt.bd fun p j hj=>Bt.bd fun u j2 hj2=>Bt.bd fun n j3 hj3=>Bt.bd fun u j4 hj4=>Bt.bd fun l k hk=>Bt.bd fun u k2 hk2=>Bt.bd fun b m hm=>?_
  have h1:i ≤ j:=by
   refine (Bt.ite (E:=E) (k:=i) (c:=sees E i [[97,99,116,105,118,101]]=true) (fun h1=>Bt.ite (fun h2=>Bt.bd fun a k hk=>Bt.bd fun u m hm=>?_) fun _=>Bt.ok (by omega) (sees_lt h1)) (fun _=>Bt.ok (Nat.le_refl _) (Nat.le_of_lt (sees_lt h))) _ _ hj).1
   have h3:=Bt.expr _ _ hk
   have h4:=Bt.need _ _ hm
   exact Bt.ok (by omega) h4.2
  have h2:=Bt.need _ _ hj2
  have h3:=Bt.pid _ _ hj3
  have h4:=Bt.need _ _ hj4
  have h5:j4 ≤ k:=(Bt.ite (E:=E) (k:=j4) (c:=sees E j4 [[41]]=true) (fun _=>Bt.ok (Nat.le_refl _) h4.2) (fun _=>(Bt.decls _ _).le (by omega)) _ _ hk).1
  have h6:=Bt.need _ _ hk2
  have h7:=bt.body _ _ _ hm
  exact Bt.ok (by omega) h7.2
 ·refine Bt.bd fun b m hm=>?_
  have h7:=bt.body _ _ _ hm
  exact Bt.ok (by omega) h7.2
 ·refine Bt.bd fun b m hm=>?_
  have h7:=bt.body _ _ _ hm
  exact Bt.ok (by omega) h7.2
 ·refine Bt.bd fun n j hj=>Bt.bd fun l k hk=>Bt.bd fun b m hm=>?_
  have h1:=Bt.pid _ _ hj
  have h2:=Bt.within (fun i=>Bt.pid) _ _ hk
  have h7:=bt.body _ _ _ hm
  exact Bt.ok (by omega) h7.2
 ·refine Bt.bd fun n j hj=>Bt.bd fun u k hk=>Bt.bd fun u m hm=>?_
  have h1:i + 1 ≤ j:=(Bt.ite (E:=E) (k:=i + 1) (c:=kindAt E (i + 1)=1) (fun h1=>Bt.ok (by omega) (kind_lt (E:=E) (by omega))) (fun _=>Bt.ok (Nat.le_refl _) (sees_lt h)) _ _ hj).1
  have h2:=Bt.need _ _ hk
  have h3:=Bt.braces _ _ _ _ _ hm
  have h4:=braces_lt _ _ _ _ _ hm
  exact Bt.ok (by omega) h4
 ·refine Bt.bd fun x j hj=>?_
  have h1:=Bt.decl _ _ hj
  exact Bt.ok (by omega) h1.2
theorem unit_top {E:Env} {f i j:Nat} {u:Unt} (h:unitP E f i=.ok u j):j ≤ E.L.length:=(Bt.unit _ _ h).2
theorem unit_pos {E:Env} {f i j:Nat} {u:Unt} (h:unitP E f i=.ok u j):i < j:=(Bt.unit _ _ h).1
theorem fu_braces {E:Env}:∀ (g n i:Nat),i ≤ E.L.length→E.L.length < i + g→Fu (braces E g n i)
 | 0,n,i,hi,h=>by omega
 | g + 1,n,i,hi,h=>by
  rw [braces]
  by_cases h1:E.L.length ≤ i
  ·rw [if_pos h1];exact Fu.wrong
  ·rw [if_neg h1]
   exact Fu.ite (fun _=>fu_braces g _ _ (by omega) (by omega)) fun _=>Fu.ite (fun _=>Fu.ite (fun _=>Fu.ok) fun _=>fu_braces g _ _ (by omega) (by omega)) fun _=>fu_braces g _ _ (by omega) (by omega)
theorem pid_adv {E:Env}:∀ i a k,pid E i=.ok a k→i < k∧k ≤ E.L.length:=fun i a k h=>by have:=pid_top h;omega
theorem fu_unit {E:Env} {f i:Nat} (hi:i ≤ E.L.length) (hf:16 * E.L.length + 16 < f):Fu (unitP E f i):=by
 have fs:=fuS E f
 have fe:=fuE E f
 unfold unitP
 dsimp only
 refine Fu.ite (fun h=>?_) fun _=>Fu.ite (fun h=>?_) fun _=>Fu.ite (fun h=>?_) fun _=>Fu.ite (fun h=>?_) fun _=>Fu.ite (fun h=>?_) fun _=>Fu.ite (fun h=>?_) fun _=>Fu.ite (fun h=>?_) fun _=>?_
 ·refine Fu.bd Fu.need fun u j hj=>Fu.bd ?_ fun l k hk=>Fu.bd Fu.need fun u m hm=>Fu.ok
  have h1:=Bt.need _ _ hj
  exact Fu.many (lo:=0) (fun k _ _=>Fu.pid) pid_adv (Nat.zero_le _) h1.2 (by omega)
 ·refine Fu.bd Fu.pid fun n j hj=>Fu.bd Fu.need fun u j2 hj2=>Fu.bd ?_ fun l k hk=>Fu.bd Fu.need fun u m hm=>Fu.ok
  have h1:=Bt.need _ _ hj2
  exact fu_decls f _ h1.2 (by omega) (by omega)
 ·refine Fu.bd (Fu.ite (fun h1=>Fu.ite (fun h2=>Fu.bd (fe.expr _ _ (sees_lt h2) (by omega)) fun a k hk=>Fu.bd Fu.need fun u m hm=>Fu.ok) fun _=>Fu.ok) fun _=>Fu.ok) fun p j hj=>Fu.bd Fu.need fun u j2 hj2=>Fu.bd Fu.pid fun n j3 hj3=>Fu.bd Fu.need fun u j4 hj4=>?_
  have h4:=Bt.need _ _ hj4
  refine Fu.bd (Fu.ite (fun _=>Fu.ok) fun _=>fu_decls f _ h4.2 (by omega) (by omega)) fun l k hk=>Fu.bd Fu.need fun u k2 hk2=>?_
  have h5:=Bt.need _ _ hk2
  exact Fu.bd (fs.body _ h5.2 (by omega)) fun b m hm=>Fu.ok
 ·exact Fu.bd (fs.body _ (sees_lt h) (by omega)) fun b m hm=>Fu.ok
 ·exact Fu.bd (fs.body _ (sees_lt h) (by omega)) fun b m hm=>Fu.ok
 ·refine Fu.bd Fu.pid fun n j hj=>Fu.bd ?_ fun l k hk=>?_
  ·exact Fu.within (lo:=0) (fun k _ _=>Fu.pid) pid_adv (by omega) (Bt.pid _ _ hj).2 (by omega)
  ·exact Fu.bd (fs.body _ (Bt.within (fun i=>Bt.pid) _ _ hk).2 (by omega)) fun b m hm=>Fu.ok
 ·refine Fu.bd (Fu.ite (fun _=>Fu.ok) fun _=>Fu.ok) fun n j hj=>Fu.bd Fu.need fun u k hk=>Fu.bd (fu_braces _ _ _ (Bt.need _ _ hk).2 (by omega)) fun u m hm=>Fu.ok
 ·exact Fu.bd (fu_decl hi (by omega)) fun x j hj=>Fu.ok
theorem fu_units {E:Env} {f:Nat} (hf:16 * E.L.length + 16 < f):∀ (g i:Nat),i ≤ E.L.length→E.L.length < i + g→Fu (units E f g i)
 | 0,i,hi,h=>by omega
 | g + 1,i,hi,h=>by
  rw [units]
  by_cases h1:E.L.length ≤ i
  ·rw [if_pos h1];exact Fu.ok
  ·rw [if_neg h1]
   refine Fu.ite (fun _=>fu_units hf g _ (by omega) (by omega)) fun _=>Fu.bd (fu_unit hi hf) fun u j hj=>Fu.bd (fu_units hf g _ (unit_top hj) (by have:=unit_pos hj;omega)) fun l k hk=>Fu.ok
end Go.Proofs.YtpoghableadkcaaGreatDoor
end
section
/- Words stand in their text one behind the other. -/
namespace Go.Proofs.YtpoghableadkcaaGreatDoor
set_option linter.unusedVariables false

structure EnvOk (E:Env):Prop where
 ord:∀ i j,i < j→j < E.L.length→placeAt E i < placeAt E j
 top:∀ i,i < E.L.length→placeAt E i ≤ E.S.length
theorem tk_ord:∀ (n i:Nat) (l:Bs) (ts:List Tk),l.length < n→tk i l=.ok ts→(∀ t ∈ ts,i ≤ t.at_)∧ts.Pairwise (fun a b=>a.at_ < b.at_)
 | 0,_,_,_,h,_=>by omega
 | n + 1,i,l,ts,hn,h=>by
  rw [tk_eq] at h
  cases hbl:blank false i l with
  | bad c a=>rw [hbl] at h;cases h
  | ok k=>
   have h1:=blank_ge _ _ _ _ hbl
   rw [hbl] at h
   simp only at h
   cases hd:l.drop (k - i) with
   | nil=>rw [hd] at h;injection h with h;subst h;exact ⟨(fun t ht=>(by cases ht)),List.Pairwise.nil⟩
   | cons c r=>
    rw [hd] at h
    simp only at h
    have h3:(c :: r).length=l.length - (k - i):=by rw [← hd,List.length_drop]
    cases hw:word k (c :: r) with
    | bad x y=>rw [hw] at h;cases h
    | ok q=>
     obtain ⟨t,m⟩:=q
     have h2:=word_ge hw
     have h4:=word_at hw
     rw [hw] at h
     simp only at h
     cases ht:tk m ((c :: r).drop (m - k)) with
     | bad x y=>rw [ht] at h;cases h
     | ok ts'=>
      rw [ht] at h
      injection h with h
      subst h
      obtain ⟨h5,h6⟩:=tk_ord n m _ ts' (by rw [List.length_drop];omega) ht
      refine ⟨fun u hu=>?_,List.Pairwise.cons (fun u hu=>by have:=h5 u hu;omega) h6⟩
      rcases List.mem_cons.1 hu with rfl | hu
      ·omega
      ·have:=h5 u hu;omega
theorem envOk {S:Bs} {L:List Tk} (h:tk 0 S=.ok L):EnvOk ⟨S,L⟩:=by
 have hp:∀ i (hi:i < L.length),placeAt ⟨S,L⟩ i=(L[i]'hi).at_:=fun i hi=>by
  unfold placeAt
  rw [List.getElem?_eq_getElem hi]
 refine ⟨fun i j hij hj=>?_,fun i hi=>?_⟩
 ·have hj':j < L.length:=hj
  rw [hp i (by omega),hp j hj']
  exact List.pairwise_iff_getElem.1 (tk_ord _ 0 S L (Nat.lt_succ_self _) h).2 i j (by omega) hj' hij
 ·have hi':i < L.length:=hi
  rw [hp i hi']
  have:=tk_place h _ (List.getElem_mem hi')
  simpa using this
end Go.Proofs.YtpoghableadkcaaGreatDoor
end
section
/- The walk of ltl (printed by mkltl.py). -/
namespace Go.Proofs.YtpoghableadkcaaGreatDoor
open Go.RowKit
set_option linter.unusedVariables false
set_option linter.unusedSimpArgs false

def ltlTl (E:Env) (f a:Nat) (n:Bs) (j:Nat):R Unt:=
 (need E [123] j).bd fun _ k=>(braces E f 1 k).bd fun _ m=>.ok ⟨8,a,n,(E.S.take (placeAt E m)).drop (placeAt E (k - 1) + 1),[],false,.zero,.zero,[],[]⟩ (m + 1)
def ltlP (E:Env) (f a i:Nat):R Unt:=(if kindAt E i=1 then R.ok (textAt E i) (i + 1) else R.ok [] i).bd (ltlTl E f a)
def LtlPost (w:World) (p:Nat) (vl:Value) (E:Env) (b:Nat) (r:R Unt) (e:Ending) (w':World):Prop:=
 match r with
 | .out=>False
 | .bad c a=>e=.panicked (badChain c a)∧Fp p w w'
 | .ok s j=>e=.returned (.tuple #[])∧∃ cs,Hid (Cx w p vl E b 54 (fun _=>True) w' j cs)∧UntF (From (w.heap.size + 1)) w' s cs
theorem UntF.of {P:Nat→Prop} {w:World} {kind at_:Nat} {name text:Bs} {names:List Bs} {ac:Bool} {cn:Ast} {dl:Dcl} {ds:List Dcl} {bo:List Stm} {vn en ei eh ek ea dv vd vb:Value}
  (h1:RowL P w 1 vn names.length (names.map strV)) (h2:AstF P w cn en ei eh ek ea) (h3:DvsV P w dv dl.vars) (h4:DclsV P w vd ds) (h5:∃ f,RowL P w 28 vb bo.length f∧StmsF P w bo f):
  UntF P w ⟨kind,at_,name,text,names,ac,cn,dl,ds,bo⟩ [.int .i64 (kind:Int),.int .i64 (at_:Int),.string ⟨name.toArray⟩,.string ⟨text.toArray⟩,vn,.bool ac,.int .i64 (cn.kind:Int),.int .i64 cn.n,.string ⟨cn.name.toArray⟩,.string ⟨cn.label.toArray⟩,en,ei,eh,ek,ea,.int .i64 dl.type,.string ⟨dl.named.toArray⟩,dv,.int .i64 (dl.at_:Int),vd,vb]:=
 ⟨vn,en,ei,eh,ek,ea,dv,vd,vb,rfl,h1,h2,h3,h4,h5⟩
theorem DclsV.nil {P:Nat→Prop} {w:World}:DclsV P w (.slice none 0 0) []:=⟨[],RowL.nil _ _ _,rfl⟩
theorem cut_text (S:Bs) (a b:Nat):S.toArray.extract a b=((S.take b).drop a).toArray:=by
 apply Array.ext'
 simp [List.extract_toArray,List.extract_eq_take_drop,List.drop_take]

theorem wrong_bd {A B:Type} {E:Env} {i:Nat} {g:A→Nat→R B}:(wrong E i:R A).bd g=wrong E i:=by rw [wrong_eq,wrong_eq];rfl

set_option maxHeartbeats 4000000 in
set_option maxRecDepth 1000000 in
theorem ltlFn {E:Env} (hO:EnvOk E) {f a0:Nat} {w W:World} {p b i:Nat} {vl:Value} {Q:World→Prop} (hX:Cx w p vl E b 54 Q W i [.int .i64 0,.int .i64 (a0:Int),.string ⟨#[]⟩,.string ⟨#[]⟩,.slice none 0 0,.bool false,.int .i64 0,.int .i64 0,.string ⟨#[]⟩,.string ⟨#[]⟩,.slice none 0 0,.slice none 0 0,.slice none 0 0,.slice none 0 0,.slice none 0 0,.int .i64 0,.string ⟨#[]⟩,.slice none 0 0,.int .i64 0,.slice none 0 0,.slice none 0 0]) (hne:ltlP E f a0 i ≠ .out):
  Calls Tryz.prog 56 #[.pointer (some ⟨p,0,none⟩),.pointer (some ⟨b,0,none⟩)] W (LtlPost w p vl E b (ltlP E f a0 i)):=by
 obtain ⟨Rr,hRr⟩:∃ Rr,ltlP E f a0 i=Rr:=⟨_,rfl⟩
 rw [hRr] at hne ⊢
 have HNE:=Lib.hid hne
 have HO:=Lib.hid hO
 have HQ:=Lib.hid hRr
 have HX0:=Lib.hid hX.forget
 have hp1:=hX.lo
 have hpb:p < b:=by have:=hX.lb;omega
 have hbw:=hX.base
 have HB:Hid (∀ c a wz,Rr=.bad c a→Fp p w wz→LtlPost w p vl E b Rr (.panicked (badChain c a)) wz):=fun c a wz h hF=>by rw [h];exact ⟨rfl,hF⟩
 clear hne hRr hX hO
 go_enter Tryz.func56,Tryz.ntmps56
 go_step3
 go_wp2_with (refine wpList_store1 rfl 3 _ _ rfl (b) 0 (.int .i64 8) rfl rfl HX0.out.box (Nat.le_of_ble_eq_true rfl) sz_int rfl rfl ?_)
 refine Named.mk (fun w1 hW=>?_)
 have HX1:=Lib.hid (HX0.out.store hW (Nat.le_of_ble_eq_true rfl))
 clear hW HX0
 obtain ⟨q,hq⟩:∃ q,decide (kindAt E i=1)=q:=⟨_,rfl⟩
 have HQ1:=Lib.hid hq
 have HT:=Lib.hid (HX1.out.is 1 hq)
 clear HX1 hq
 go_wp2_with (fail)
 refine HT.out.mono ?_
 rintro e w2 ⟨rfl,HX2⟩
 clear HT
 go_upto_if 10 with (fail)
 go_cut [] (fun wx=>∃ (n:Bs) (j:Nat),Hid (ltlTl E f a0 n j=Rr)∧Hid (Cx w p vl E b 54 (fun _=>True) wx j [.int .i64 8,.int .i64 (a0:Int),.string ⟨n.toArray⟩,.string ⟨#[]⟩,.slice none 0 0,.bool false,.int .i64 0,.int .i64 0,.string ⟨#[]⟩,.string ⟨#[]⟩,.slice none 0 0,.slice none 0 0,.slice none 0 0,.slice none 0 0,.slice none 0 0,.int .i64 0,.string ⟨#[]⟩,.slice none 0 0,.int .i64 0,.slice none 0 0,.slice none 0 0]))
 case first=>
  cases q with
  | true=>
   have hk:=of_decide_eq_true HQ1.out
   replace HQ:Hid ((pid E i).bd (ltlTl E f a0)=Rr):=by
    have h:=HQ.out
    unfold ltlP at h
    rw [if_pos hk] at h
    exact (pid_bd hk (ltlTl E f a0)).symm.trans h
   clear hk
   have HC:=Lib.hid (HX2.out.part (idFn HX2.out.par) HQ.out)
   clear HQ HX2 
   go_wp2_with (fail)
   refine HC.out _ (fun c a wz h hF=>⟨rfl,HB.out c a wz h hF⟩) ?_
   rintro s j2 v w3 hr HQ hv HX3
   clear hr HC
   obtain rfl:=hv
   go_wp2_with (refine wpList_store1 rfl 9 _ _ rfl (b) 2 (.string ⟨s.toArray⟩) rfl rfl HX3.out.box (Nat.le_of_ble_eq_true rfl) sz_string rfl rfl ?_)
   refine Named.mk (fun w4 hW=>?_)
   have HX4:=Lib.hid (HX3.out.store hW (Nat.le_of_ble_eq_true rfl))
   clear hW HX3
   go_wp2_with (fail)
   go_meet
   case rel=>exact ⟨_,_,HQ,HX4⟩
  | false=>
   replace HQ:Hid (ltlTl E f a0 [] i=Rr):=by
    have h:=HQ.out
    unfold ltlP at h
    rw [if_neg (of_decide_eq_false HQ1.out)] at h
    exact h
   go_wp2_with (fail)
   go_meet
   case rel=>exact ⟨[],_,HQ,HX2⟩
 case rest=>
  clear HX2 HQ HQ1
  obtain ⟨n,j,HQ,HX5⟩:=hcut
  replace HQ:=Lib.hid (show (need E [123] j).bd _=Rr from HQ.out)
  have HC:=Lib.hid (HX5.out.part (needFn HX5.out.par [123]) HQ.out)
  clear HQ HX5 
  go_wp2_with (fail)
  refine HC.out _ (fun c a wz h hF=>⟨rfl,HB.out c a wz h hF⟩) ?_
  rintro u k v w6 hr HQ hv HX6
  have HK1:Hid (k=j + 1):=need_pos hr
  clear hr HC
  obtain rfl:=hv
  obtain rfl:=HK1.out
  have HLT:=Lib.hid (show j < E.L.length from HX6.out.par.le)
  obtain ⟨t,ht⟩:∃ t,tokAt E j=t:=⟨_,rfl⟩
  have Ht:=Lib.hid ht
  have HX:=HX6
  have hP:=HX.out.par
  obtain ⟨c0,c1,c2,f2⟩:=hP.cells
  obtain ⟨d0,d1,d2,_⟩:=hP.cells1
  obtain ⟨gl,cl,hvl,hcl1,hcl2,_,t0,t1,t2,t3⟩:=hP.tok HLT.out
  have hj65:=HX.out.few
  have hlt:=HLT.out
  obtain ⟨N,hN⟩:∃ N,E.L.length=N:=⟨_,rfl⟩
  have HN:=Lib.hid hN
  have HVL:=Lib.hid hvl
  rw [hvl] at c1 d1
  rw [ht] at t0 t1 t2 t3
  rw [hN] at c1 d1 hlt hcl1
  have hts:t.at_ + 1 ≤ 2147483648:=by have h1:=HO.out.top j HLT.out;rw [placeAt_tok,ht] at h1;have:=hP.short;omega
  clear hP hvl ht hN HX6
  have hi0:(0:Int) ≤ (j:Int):=Int.natCast_nonneg j
  have hi1:(j:Int) < (N:Int):=by omega
  have hwj:IntKind.i64.wrap (j:Int)=(j:Int):=by rw [IntKind.wrap_i64];omega
  go_wp2
  go_quiet (fail)
  go_wp2
  have HX7:=Lib.hid (HX.out.call (HX.out.par.drewN nq) ((Fp.refl p _).drewN nq))
  clear HX t0 t1 t2 t3 c0 c1 c2 f2 d0 d1 d2 hj65 hwj hi0 hi1
  obtain ⟨w8,hw8⟩:∃ W,W=w6.drewN nq:=⟨_,rfl⟩
  rw [← hw8] at HX7
  rw [← hw8]
  clear hw8
  go_step3
  go_wp2
  go_loopg [5] f (fun gk v wr=>∃ (c i2:Nat),v=.int .i64 (c:Int)∧1 ≤ c∧c ≤ i2∧j < i2∧Hid ((braces E gk c i2).bd (fun _ m=>R.ok (⟨8,a0,n,(E.S.take (placeAt E m)).drop (placeAt E j + 1),[],false,.zero,.zero,[],[]⟩:Unt) (m + 1))=Rr)∧Hid (Cx w p vl E b 54 (fun _=>True) wr i2 [.int .i64 8,.int .i64 (a0:Int),.string ⟨n.toArray⟩,.string ⟨#[]⟩,.slice none 0 0,.bool false,.int .i64 0,.int .i64 0,.string ⟨#[]⟩,.string ⟨#[]⟩,.slice none 0 0,.slice none 0 0,.slice none 0 0,.slice none 0 0,.slice none 0 0,.int .i64 0,.string ⟨#[]⟩,.slice none 0 0,.int .i64 0,.slice none 0 0,.slice none 0 0]))
  case atStart=>exact ⟨1,j + 1,rfl,Nat.le_refl _,by omega,by omega,HQ,HX7⟩
  case round=>
   clear HQ HX7
   obtain ⟨c,i2,hv,hc1,hci,hji,HQ,HX⟩:=hrel
   subst hv
   cases gk with
   | zero=>exact absurd (HQ.out.symm.trans (by rw [braces];rfl)) HNE.out
   | succ gk=>
    have hQ:=HQ.out
    rw [braces] at hQ
    obtain ⟨c0,c1,c2,f2⟩:=HX.out.par.cells
    rw [HVL.out,HN.out] at c1
    have hi65:=HX.out.few
    have hiN:=HX.out.par.le
    rw [HN.out] at hiN
    by_cases he:i2=N
    ·have he2:((i2:Int) == (N:Int))=true:=by simp;omega
     rw [if_pos (by rw [HN.out];omega)] at hQ
     replace HQ:=Lib.hid (wrong_bd.symm.trans hQ)
     clear hQ he
     go_wp2
     go_quiet (fail)
     have HC:=Lib.hid ((HX.out.call (HX.out.par.drewN nq) ((Fp.refl p _).drewN nq)).wrong HQ.out)
     go_wp2_with (fail)
     exact HC.out _ (fun c a wz h hF=>⟨rfl,HB.out c a wz h hF⟩)
    ·have he2:((i2:Int) == (N:Int))=false:=by simp;omega
     have hlt2:i2 < E.L.length:=by rw [HN.out];omega
     rw [if_neg (by omega)] at hQ
     replace HQ:=Lib.hid hQ
     have HLT2:=Lib.hid hlt2
     clear hQ he hlt2
     go_wp2
     go_quiet (fail)
     have HXa:=Lib.hid (HX.out.call (HX.out.par.drewN nq) ((Fp.refl p _).drewN nq))
     clear HX c0 c1 c2 f2 he2
     obtain ⟨wa,hwa⟩:∃ W,W=wr.drewN nq:=⟨_,rfl⟩
     rw [← hwa] at HXa
     rw [← hwa]
     clear hwa
     obtain hs | hs:=tf (sees E i2 [[123]])
     ·have HT:=Lib.hid (HXa.out.see0 [[123]] #[.string ⟨#[123]⟩] rfl (by decide) hs)
      replace HQ:=Lib.hid ((bite_yes hs).symm.trans HQ.out)
      clear HXa hs
      go_wp2_with (fail)
      refine HT.out.mono ?_
      rintro e wb ⟨rfl,HXb⟩
      clear HT
      obtain ⟨c0,c1,c2,f2⟩:=HXb.out.par.cells
      go_wp2_with (refine wpList_store1 rfl 3 _ _ rfl p 2 (.int .i64 ((i2:Int) + 1)) rfl rfl HXb.out.par.at_ (by simp) sz_int rfl rfl ?_)
      refine Named.mk (fun wd hW=>?_)
      have HXd:=Lib.hid (HXb.out.set (j':=i2 + 1) HLT2.out hW)
      clear hW c0 c1 c2 f2 HXb
      go_wp2
      go_roundg gk
      case measure=>omega
      case rel=>exact ⟨c + 1,i2 + 1,rfl,by omega,by omega,by omega,HQ,HXd⟩
     have HT:=Lib.hid (HXa.out.see0 [[123]] #[.string ⟨#[123]⟩] rfl (by decide) hs)
     replace HQ:=Lib.hid ((bite_no hs).symm.trans HQ.out)
     clear HXa hs
     go_wp2_with (fail)
     refine HT.out.mono ?_
     rintro e wb ⟨rfl,HXb⟩
     clear HT
     obtain hs | hs:=tf (sees E i2 [[125]])
     ·have HT:=Lib.hid (HXb.out.see0 [[125]] #[.string ⟨#[125]⟩] rfl (by decide) hs)
      replace HQ:=Lib.hid ((bite_yes hs).symm.trans HQ.out)
      clear HXb hs
      obtain ⟨c',rfl⟩:∃ c',c=c' + 1:=⟨c - 1,by omega⟩
      by_cases h0:c'=0
      ·subst h0
       have hQ:=HQ.out
       rw [if_pos rfl] at hQ
       replace HQ:=Lib.hid (bd_ok.symm.trans hQ)
       clear hQ
       go_wp2_with (fail)
       refine HT.out.mono ?_
       rintro e wc ⟨rfl,HXc⟩
       clear HT
       obtain ⟨t2,ht2⟩:∃ t,tokAt E i2=t:=⟨_,rfl⟩
       obtain ⟨c0,c1,c2,f2⟩:=HXc.out.par.cells
       obtain ⟨g2,cap2,hvl2,_,_,_,s0,s1,s2,s3⟩:=HXc.out.par.tok HLT2.out
       rw [HVL.out,HN.out] at c1
       rw [HVL.out] at hvl2
       injection hvl2 with q1 _ _
       injection q1 with q1
       injection q1 with q1
       subst q1
       rw [ht2] at s3
       have b3:wc.cell? ⟨b,3,none⟩=some (.string ⟨#[]⟩):=HXc.out.box.cell 3
       have g3:wc.frozen? ⟨b,3,none⟩=false:=HXc.out.box.free 3
       have hS:=HXc.out.par.short
       have ord:=HO.out.ord j i2 hji HLT2.out
       rw [placeAt_tok,placeAt_tok,Ht.out,ht2] at ord
       have top:=HO.out.top i2 HLT2.out
       rw [placeAt_tok,ht2] at top
       have HT2:=Lib.hid ht2
       have hlt2:i2 < N:=by have:=HLT2.out;rw [HN.out] at this;exact this
       obtain ⟨SL,hSL⟩:∃ n,E.S.length=n:=⟨_,rfl⟩
       obtain ⟨SA,hSA⟩:∃ a:Array UInt8,E.S.toArray=a:=⟨_,rfl⟩
       have hsz:SA.size=SL:=by rw [← hSA,← hSL];simp
       rw [hSL] at hS top
       rw [hSA] at c0
       have ha0:(0:Int) ≤ (t.at_:Int) + 1:=by omega
       have ha1:(t.at_:Int) + 1 ≤ (t2.at_:Int):=by omega
       have ha2:(t2.at_:Int) ≤ (SL:Int):=by omega
       have hi0:(0:Int) ≤ (i2:Int):=by omega
       have hi1:(i2:Int) < (N:Int):=by omega
       have hwi:IntKind.i64.wrap (i2:Int)=(i2:Int):=by rw [IntKind.wrap_i64];omega
       clear s0 s1 s2 ht2 hSL ord top
       go_wp2
       go_region
       have htx:(ByteArray.mk SA).extract (t.at_ + 1) t2.at_=⟨((E.S.take (placeAt E i2)).drop (placeAt E j + 1)).toArray⟩:=by
        apply ByteArray.ext
        rw [ByteArray.data_extract,← hSA,cut_text,placeAt_tok,placeAt_tok,Ht.out,HT2.out]
       rw [htx]
       have HXf:=Lib.hid ((HXc.out.store (i:=3) (xs:=[.string ⟨((E.S.take (placeAt E i2)).drop (placeAt E j + 1)).toArray⟩]) rfl (Nat.le_of_ble_eq_true rfl)).drew)
       have hX3:=HXf.out
       obtain ⟨wf,hwf⟩:∃ W,W=(wc.setCell ⟨b,3,none⟩ (.string ⟨((E.S.take (placeAt E i2)).drop (placeAt E j + 1)).toArray⟩)).drew:=⟨_,rfl⟩
       have hX4:Cx w p vl E b 54 (fun _=>True) wf i2 [.int .i64 8,.int .i64 (a0:Int),.string ⟨n.toArray⟩,.string ⟨((E.S.take (placeAt E i2)).drop (placeAt E j + 1)).toArray⟩,.slice none 0 0,.bool false,.int .i64 0,.int .i64 0,.string ⟨#[]⟩,.string ⟨#[]⟩,.slice none 0 0,.slice none 0 0,.slice none 0 0,.slice none 0 0,.slice none 0 0,.int .i64 0,.string ⟨#[]⟩,.slice none 0 0,.int .i64 0,.slice none 0 0,.slice none 0 0]:=by rw [hwf];exact hX3
       rw [← hwf]
       have HXg:=Lib.hid hX4
       have hi65':=hX4.few
       clear hX3 hX4 HXf hwf htx b3 g3 c0 c1 c2 f2 s3 HXc ha0 ha1 ha2 hi0 hi1 hwi hsz hSA hlt2 hS
       obtain ⟨c0,c1,c2,f2⟩:=HXg.out.par.cells
       go_wp2_with (refine wpList_store1 rfl 3 _ _ rfl p 2 (.int .i64 ((i2:Int) + 1)) rfl rfl HXg.out.par.at_ (by simp) sz_int rfl rfl ?_)
       refine Named.mk (fun wd hW=>?_)
       have HXd:=Lib.hid (HXg.out.set (j':=i2 + 1) HLT2.out hW)
       clear hW c0 c1 c2 f2 HXg
       go_wp2
       rw [Exit.noGoto_normal]
       refine bodyPost_end (v:=.tuple #[]) (by simp [results,Tryz.results56,go_sem]) rfl ?_
       rw [← HQ.out]
       exact ⟨rfl,_,HXd,UntF.of (RowL.nil _ _ _) AstF.zero DvsV.nil DclsV.nil stms_nil⟩
      ·have hQ:=HQ.out
       rw [if_neg (by omega),Nat.add_sub_cancel] at hQ
       replace HQ:=Lib.hid hQ
       have h0':((c':Int) == 0)=false:=by simp;omega
       have hcs:((c' + 1:Nat):Int) - 1=(c':Int):=by omega
       clear hQ
       go_wp2_with (fail)
       refine HT.out.mono ?_
       rintro e wc ⟨rfl,HXc⟩
       clear HT
       obtain ⟨c0,c1,c2,f2⟩:=HXc.out.par.cells
       go_wp2_with (refine wpList_store1 rfl 3 _ _ rfl p 2 (.int .i64 ((i2:Int) + 1)) rfl rfl HXc.out.par.at_ (by simp) sz_int rfl rfl ?_)
       refine Named.mk (fun wd hW=>?_)
       have HXd:=Lib.hid (HXc.out.set (j':=i2 + 1) HLT2.out hW)
       clear hW c0 c1 c2 f2 HXc
       go_wp2
       go_roundg gk
       case measure=>omega
       case rel=>exact ⟨c',i2 + 1,by simp,by omega,by omega,by omega,HQ,HXd⟩
     have HT:=Lib.hid (HXb.out.see0 [[125]] #[.string ⟨#[125]⟩] rfl (by decide) hs)
     replace HQ:=Lib.hid ((bite_no hs).symm.trans HQ.out)
     clear HXb hs
     go_wp2_with (fail)
     refine HT.out.mono ?_
     rintro e wc ⟨rfl,HXc⟩
     clear HT
     obtain ⟨c0,c1,c2,f2⟩:=HXc.out.par.cells
     go_wp2_with (refine wpList_store1 rfl 3 _ _ rfl p 2 (.int .i64 ((i2:Int) + 1)) rfl rfl HXc.out.par.at_ (by simp) sz_int rfl rfl ?_)
     refine Named.mk (fun wd hW=>?_)
     have HXd:=Lib.hid (HXc.out.set (j':=i2 + 1) HLT2.out hW)
     clear hW c0 c1 c2 f2 HXc
     go_wp2
     go_roundg gk
     case measure=>omega
     case rel=>exact ⟨c,i2 + 1,rfl,by omega,by omega,by omega,HQ,HXd⟩
end Go.Proofs.YtpoghableadkcaaGreatDoor
end
