/- The walk of ref (printed by mkexp9.py). -/
import Derived.Test.YtpoghableadkcaaGreatDoorM11
import Derived.Deep.DeepCutAuto
import Derived.Deep.LoopGhost
namespace Go.Proofs.YtpoghableadkcaaGreatDoor
open Go.RowKit
set_option linter.unusedVariables false
set_option linter.unusedSimpArgs false

theorem cells_of_holds {w:World} {g:Nat} {t:TypeId} {cs:List Value} (h:Holds w g t cs):∀ j u,cs[j]?=some u→w.cell? ((⟨g,0,none⟩:Addr).add j)=some u:=fun j u hu=>by
 rw [Addr.add_lit,Nat.zero_add,h.cell];exact hu
theorem outRef {fn:Func} {s:Nat} {tmps:Array Value} {W:World} {b:Nat} {x0 x1 x2:Value} (hf:fn.results=#[.cell s 38]) (h:Holds W b 38 [x0,x1,x2]) (hs:tmps[s]?.getD undef=.pointer (some ⟨b,0,none⟩)):
  (results fn tmps).run Tryz.prog W=.ok (.agg #[x0,x1,x2]) W:=by
 have d0:W.cell? ⟨b,0,none⟩=some x0:=h.cell 0
 have d1:W.cell? ⟨b,1,none⟩=some x1:=h.cell 1
 have d2:W.cell? ⟨b,2,none⟩=some x2:=h.cell 2
 simp [results,hf,hs,go_sem,d0,d1,d2]

set_option maxHeartbeats 4000000 in
set_option maxRecDepth 100000 in
theorem refFn {E:Env} {f:Nat} (ih:∀ g,g ≤ f→ExprOk E g) {w:World} {p i:Nat} {vl:Value} (hP:Par w p vl E i) (hne:ref E (f + 1) i ≠ .out):
  Calls Tryz.prog 147 #[.pointer (some ⟨p,0,none⟩)] w (Out p vl E w (RfV (From w.heap.size)) (ref E (f + 1) i)):=by
 have hp1:=hP.lt
 have hfew:=hP.few
 have hb0:Below w.heap.size w (w.alloc (.cells #[.slice none 0 0,.slice none 0 0,.slice none 0 0] 38)):=(Below.refl _ _).alloc (Nat.le_refl _) _
 obtain ⟨Rr,hRr⟩:∃ Rr,ref E (f + 1) i=Rr:=⟨_,rfl⟩
 rw [hRr] at hne ⊢
 have HNE:=Lib.hid hne
 have HIH:=Lib.hid ih
 have hR2:(ref E (f + 1) i).bd (fun r k=>.ok (⟨[] ++ r.names,[] ++ r.index,[] ++ r.has⟩:Rf) k)=Rr:=by rw [← hRr];cases ref E (f + 1) i <;> rfl
 have HR:=Lib.hid hR2
 have hst:RefSt w p vl E i [.slice none 0 0,.slice none 0 0,.slice none 0 0] (.slice none 0 0) (.slice none 0 0) (.slice none 0 0) 0 0 0 [] [] [] [] (w.alloc (.cells #[.slice none 0 0,.slice none 0 0,.slice none 0 0] 38)):=
  ⟨Holds.new w _ _,⟨rfl,.inl ⟨rfl,rfl⟩⟩,⟨rfl,.inl ⟨rfl,rfl⟩⟩,⟨rfl,.inl ⟨rfl,rfl⟩⟩,by rw [AstsF],hP.belowAll hb0,Fp.of_below hb0,hp1⟩
 have HST:=Lib.hid hst
 clear hP hb0 hne ih hRr hR2 hst
 go_enter Tryz.func147,Tryz.ntmps147
 go_wp2
 go_loopg [3] (f + 1) (fun gk v wr=>∃ (ns:List Bs) (is:List Ast) (hs:List Bool) (fl:List Value) (j nn:Nat) (an ai ah:Option Addr) (cn ci ch:Nat),gk ≤ f + 1∧j ≤ 65536∧nn ≤ j∧Hid (ns.length=nn∧is.length=nn∧hs.length=nn)∧Hid ((ref E gk j).bd (fun r k=>.ok (⟨ns ++ r.names,is ++ r.index,hs ++ r.has⟩:Rf) k)=Rr)∧Hid (RefSt w p vl E j [.slice an nn cn,.slice ai nn ci,.slice ah nn ch] (.slice an nn cn) (.slice ai nn ci) (.slice ah nn ch) nn nn nn ns is hs fl wr))
 case atStart=>exact ⟨[],[],[],[],i,0,none,none,none,0,0,0,Nat.le_refl _,Nat.le_trans HST.out.par.le HST.out.par.few,Nat.zero_le _,⟨rfl,rfl,rfl⟩,HR,HST⟩
 case round=>
  clear HST HR
  obtain ⟨ns,is,hs,fl,j,nn,an,ai,ah,cn,ci,ch,hgk,hj,hnj,HLN,HR,HST⟩:=hrel
  cases gk with
  | zero=>exact absurd (HR.out.symm.trans (by rw [ref];rfl)) HNE.out
  | succ gk=>
   have hR:=HR.out
   rw [ref,bd_bd] at hR
   clear HR
   have hC':=idFn HST.out.par.drew
   have r0:wr.cell? ⟨w.heap.size,0,none⟩=some (.slice an nn cn):=HST.out.box.cell 0
   cases h1:pid E j with
   | out=>exact absurd h1 pid_ne
   | bad c a=>
    rw [h1] at hC' hR
    have HC:=Lib.hid hC'
    have HR:=Lib.hid hR
    clear h1 hC' hR
    go_wp2
    go_region_dies
    all_goals (
     refine (HC.out).mono ?_
     rintro e wz ⟨rfl,hF⟩
     rw [← HR.out]
     exact ⟨rfl,rfl,Fp.trans HST.out.fp.drew hF⟩)
   | ok s j1=>
    rw [h1] at hC' hR
    have HC:=Lib.hid hC'
    have HR:=Lib.hid hR
    have HJ1:=Lib.hid (pid_pos h1)
    clear h1 hC' hR r0
    have l0:∀ w',Fr (fun k=>k=p∨(Value.slice an nn cn).ownBlock=some k) wr w'→w'.cell? ⟨w.heap.size,0,none⟩=some (.slice an nn cn):=fun w' h=>(Fr.holds h HST.out.box (fun e=>by rcases e with e | e;omega;have:=owns_ge HST.out.n _ e;omega)).cell 0
    go_wp2
    refine wp_region_T (S:=(fun w':World=>Fr (fun k=>k=p∨(Value.slice an nn cn).ownBlock=some k) wr w')) [7] (by kernel_rfl) ?_
    have HSx:Hid (Fr (fun k=>k=p∨(Value.slice an nn cn).ownBlock=some k) wr wr.drew):=(Fr.refl _ _).drew
    refine wpAnyT_take [7] (i:=0) (oi:={ dst:=some 5,op:=Op.fieldAddr 38 (Operand.tmp 2) 0,type:=0,pos:="parse.go:447",after:=#[],guard:=none }) (v:=.pointer (some ⟨w.heap.size,0,none⟩)) rfl (by kernel_rfl) (by kernel_rfl) (by kernel_rfl) (by kernel_rfl) (by kernel_rfl) (by kernel_rfl) (fun _ _ _ h=>h) (Or.inl ⟨by rfl,?_⟩) HSx.out ?_
    ·intro w hSw
     (try dsimp only at hSw)
     go_simp
    try simp only [Act.put,List.setIfInBounds_toArray,List.set_cons_zero,List.set_cons_succ]
    refine wpAnyT_take [7] (i:=1) (oi:={ dst:=some 6,op:=Op.load 34 (Operand.tmp 5),type:=34,pos:="parse.go:447",after:=#[{ on:=0,ground:=Ground.data }],guard:=none }) (v:=.slice an nn cn) rfl (by kernel_rfl) (by kernel_rfl) (by kernel_rfl) (by kernel_rfl) (by kernel_rfl) (by kernel_rfl) (fun _ _ _ h=>h) (Or.inl ⟨by rfl,?_⟩) HSx.out ?_
    ·intro w hSw
     (try dsimp only at hSw)
     go_simp
    try simp only [Act.put,List.setIfInBounds_toArray,List.set_cons_zero,List.set_cons_succ]
    refine wpAnyT_take [7] (i:=2) (oi:={ dst:=some 7,op:=Op.move (Operand.tmp 0),type:=59,pos:="parse.go:447",after:=#[],guard:=none }) (v:=.pointer (some ⟨p,0,none⟩)) rfl (by kernel_rfl) (by kernel_rfl) (by kernel_rfl) (by kernel_rfl) (by kernel_rfl) (by kernel_rfl) (fun _ _ _ h=>h) (Or.inl ⟨by rfl,?_⟩) HSx.out ?_
    ·intro w hSw
     (try dsimp only at hSw)
     go_simp
    try simp only [Act.put,List.setIfInBounds_toArray,List.set_cons_zero,List.set_cons_succ]
    refine wpAnyT_ready (rs:=[3]) (by kernel_rfl) (by simp) ?_
    refine AllReadyT.cons (o:={ dst:=some 8,op:=Op.call { callee:=Callee.value (Operand.func 52),args:=#[Operand.tmp 7],argTypes:=#[59] },type:=9,pos:="parse.go:447",after:=#[{ on:=2,ground:=Ground.data }],guard:=none }) rfl (fun K hK=>?_) AllReadyT.nil
    go_simp
    go_at_call 52
    refine (HC.out).mono ?_
    rintro e w6 ⟨v6,rfl,hv6,hP6,hF6⟩
    obtain rfl:=hv6
    have HST6:=Lib.hid (HST.out.drew.fpc hF6 hP6)
    have HS6:=Lib.hid (Fr.mono (G:=fun k=>k=p∨(Value.slice an nn cn).ownBlock=some k) (Fp.trans (Fp.refl p wr).drew hF6) (fun k _ e=>.inl e))
    clear hP6 hF6
    refine hK.out _ _ (fun _=>HS6.out) ?_
    clear hK K
    try simp only [Act.put,List.setIfInBounds_toArray,List.set_cons_zero,List.set_cons_succ]
    refine wpAnyT_ready (rs:=[4]) (by kernel_rfl) (by simp) ?_
    refine AllReadyT.cons (o:={ dst:=some 9,op:=Op.buildSlice 34 1 #[(0,Operand.tmp 8)],type:=34,pos:="parse.go:447",after:=#[{ on:=3,ground:=Ground.data }],guard:=none }) rfl (fun K hK=>?_) AllReadyT.nil
    go_simp
    refine hK.out _ _ (fun _=>Fr.alloc HS6.out _) ?_
    clear hK K
    try simp only [Act.put,List.setIfInBounds_toArray,List.set_cons_zero,List.set_cons_succ]
    have HSa:=Lib.hid (Fr.alloc HS6.out (.cells #[.string ⟨s.toArray⟩] 9))
    have HSTa:=Lib.hid (HST6.out.alloc (.cells #[.string ⟨s.toArray⟩] 9))
    have hz6:=HST6.out.base
    clear HS6
    refine wpAnyT_ready (rs:=[5]) (by kernel_rfl) (by simp) ?_
    refine AllReadyT.cons (o:={ dst:=some 10,op:=Op.call { callee:=Callee.builtin Builtin.append,args:=#[Operand.tmp 6,Operand.tmp 9],argTypes:=#[34,34] },type:=34,pos:="parse.go:447",after:=#[{ on:=1,ground:=Ground.data },{ on:=4,ground:=Ground.data },{ on:=3,ground:=Ground.chain }],guard:=none }) rfl (fun K hK=>?_) AllReadyT.nil
    rw [if_pos (by rfl)]
    obtain ⟨i0,z0,hi0,hz0,hz1,hz2,hz3⟩:=info_of listStr_info
    refine wp_append_own_at (.tmp 6) (.tmp 9) _ rfl (w.heap.size + 1) 9 i0 z0 1 16 Tryz.underlying34 hi0 hz0 hz1 hz2 hz3 (by omega) _ nn (ns.map strV) rfl HSTa.out.n ⟨w6.heap.size,0,none⟩ 1 1 [strV s] rfl rfl (cells_of_new _ _ rfl [strV s] 9) (by simp [Value.oneCell',strV]) (by unfold maxLen;omega) (by omega) (by simp;omega) ?_
    intro v7 w7 hown hgrow hat
    obtain ⟨an2,cn2,rfl,hc1,hc2⟩:=owns_form hown
    clear hi0 hz0 hz1 hz2 hz3
    have HST7:=Lib.hid (HSTa.out.grown_n hgrow hown hat)
    have HS7:=Lib.hid (Fr.trans HSa.out (Fr.grown (F:=fun k=>k=p∨(Value.slice an nn cn).ownBlock=some k) (Fr.refl _ _) hgrow fun k e _=>.inr e) (fun _ _ e=>e))
    clear hown hgrow hat HSTa HSa
    refine hK.out _ _ (fun _=>HS7.out) ?_
    clear hK K
    try simp only [Act.put,List.setIfInBounds_toArray,List.set_cons_zero,List.set_cons_succ]
    refine wpAnyT_ready (rs:=[6]) (by kernel_rfl) (by simp) ?_
    refine AllReadyT.cons (o:={ dst:=some 11,op:=Op.fieldAddr 38 (Operand.tmp 2) 0,type:=0,pos:="parse.go:447",after:=#[{ on:=0,ground:=Ground.phase },{ on:=1,ground:=Ground.phase },{ on:=2,ground:=Ground.phase },{ on:=3,ground:=Ground.phase },{ on:=4,ground:=Ground.phase },{ on:=5,ground:=Ground.phase }],guard:=none }) rfl (fun K hK=>?_) AllReadyT.nil
    go_simp
    refine hK.out _ _ (fun _=>HS7.out) ?_
    clear hK K
    try simp only [Act.put,List.setIfInBounds_toArray,List.set_cons_zero,List.set_cons_succ]
    have b0:w7.cell? ⟨w.heap.size,0,none⟩=some (.slice an nn cn):=HST7.out.box.cell 0
    have g0:w7.frozen? ⟨w.heap.size,0,none⟩=false:=HST7.out.box.free 0
    refine wpAnyT_ready (rs:=[7]) (by kernel_rfl) (by simp) ?_
    refine AllReadyT.cons (o:={ dst:=none,op:=Op.store 34 (Operand.tmp 11) (Operand.tmp 10),type:=0,pos:="parse.go:447",after:=#[{ on:=6,ground:=Ground.data },{ on:=5,ground:=Ground.data },{ on:=5,ground:=Ground.chain },{ on:=0,ground:=Ground.phase },{ on:=1,ground:=Ground.phase },{ on:=2,ground:=Ground.phase },{ on:=3,ground:=Ground.phase },{ on:=4,ground:=Ground.phase },{ on:=5,ground:=Ground.phase }],guard:=none }) rfl (fun K hK=>?_) AllReadyT.nil
    go_simp
    refine hK.out _ _ (fun h=>absurd h (by decide)) ?_
    clear hK K
    try simp only [Act.put,List.setIfInBounds_toArray,List.set_cons_zero,List.set_cons_succ]
    clear b0 g0
    refine wpAnyT_done (by kernel_rfl) ?_ _
    have hst8:=HST7.out.set 0 (.slice an2 (nn + 1) cn2)
    obtain ⟨w8,hw8⟩:∃ W,W=w7.setCell ⟨w.heap.size,0,none⟩ (.slice an2 (nn + 1) cn2):=⟨_,rfl⟩
    rw [← hw8] at hst8
    rw [← hw8]
    have HST8:=Lib.hid hst8
    clear hst8 hw8 HST7 HS7 HST6 l0 HSx HC
    have hj1:=HJ1.out
    subst hj1
    have HL1:=Lib.hid (show nn + 1 ≤ j + 1 by omega)
    obtain ⟨H2,hH2⟩:∃ H2:Bool,sees E (j + 1) [[91]]=H2:=⟨_,rfl⟩
    have HH2:=Lib.hid hH2
    clear hH2
    go_upto_region 2 with (fail)
    go_cut [3,4] (fun s3 s4 wx=>s3=.bool H2∧∃ bi:Nat,s4=.pointer (some ⟨bi,0,none⟩)∧w8.heap.size ≤ bi∧Hid (Holds wx bi 41 [.int .i64 0,.int .i64 0,.string ⟨#[]⟩,.string ⟨#[]⟩,.slice none 0 0,.slice none 0 0,.slice none 0 0,.slice none 0 0,.slice none 0 0])∧Hid (Fp p w8 wx)∧Hid (Par wx p vl E (if H2 then j + 2 else j + 1)))
    case first=>
     have hbr:Below w8.heap.size w8 (w8.alloc (.cells #[.string ⟨#[91]⟩] 9)):=(Below.refl _ _).alloc (Nat.le_refl _) _
     have HPr:=Lib.hid (HST8.out.par.belowAll hbr)
     have HLr:=Lib.hid (Holds.new w8 9 #[.string ⟨#[91]⟩])
     have HBr:=Lib.hid hbr
     clear hbr
     cases H2 with
     | true=>
      have HT:=Lib.hid (takes_yes HPr.out [[91]] HLr.out (by simp) HH2.out)
      go_wp2_with (fail)
      refine (HT.out).mono ?_
      rintro e wt ⟨rfl,hPq,hFq⟩
      have hPx:=Lib.hid hPq
      have HFx:=Lib.hid ((Fp.of_below HBr.out).trans hFq)
      clear hPq hFq
      have hba:Below wt.heap.size wt (wt.alloc (.cells #[.int .i64 0,.int .i64 0,.string ⟨#[]⟩,.string ⟨#[]⟩,.slice none 0 0,.slice none 0 0,.slice none 0 0,.slice none 0 0,.slice none 0 0] 41)):=(Below.refl _ _).alloc (Nat.le_refl _) _
      have HPy:=Lib.hid (hPx.out.belowAll hba)
      have HFy:=Lib.hid (HFx.out.bel hba)
      have hz:=HFx.out.size
      clear hba
      go_wp2
      go_meet
      case rel=>exact ⟨rfl,wt.heap.size,rfl,hz,Holds.new wt _ _,HFy,HPy⟩
     | false=>
      have HT:=Lib.hid (takes_no HPr.out [[91]] HLr.out (by simp) HH2.out)
      go_wp2_with (fail)
      refine (HT.out).mono ?_
      rintro e wt ⟨rfl,hbq⟩
      have hPx:=Lib.hid (HPr.out.belowAll hbq)
      have HFx:=Lib.hid ((Fp.of_below (p:=p) HBr.out).bel hbq)
      clear hbq
      have hba:Below wt.heap.size wt (wt.alloc (.cells #[.int .i64 0,.int .i64 0,.string ⟨#[]⟩,.string ⟨#[]⟩,.slice none 0 0,.slice none 0 0,.slice none 0 0,.slice none 0 0,.slice none 0 0] 41)):=(Below.refl _ _).alloc (Nat.le_refl _) _
      have HPy:=Lib.hid (hPx.out.belowAll hba)
      have HFy:=Lib.hid (HFx.out.bel hba)
      have hz:=HFx.out.size
      clear hba
      go_wp2
      go_meet
      case rel=>exact ⟨rfl,wt.heap.size,rfl,hz,Holds.new wt _ _,HFy,HPy⟩
    case rest=>
     obtain ⟨rfl,bi,rfl,hbi,HA,HFc,HPc⟩:=hcut
     have hw8:=HST8.out.base
     have hR:=HR.out
     clear HR
     change R.bd (R.bd (if sees E (j + 1) [[91]]=true then _ else _) _) _=Rr at hR
     rw [HH2.out,bd_bd] at hR
     have HR:=Lib.hid hR
     clear hR
     go_upto_if 16 with (fail)
     go_cut [2] (fun s2 wx=>s2=.pointer (some ⟨w.heap.size,0,none⟩)∧∃ (x:Ast) (k:Nat) (xa1:Option Addr) (xn1 xc1:Nat) (xa2:Option Addr) (xn2 xc2:Nat) (xa3:Option Addr) (xn3 xc3:Nat) (xa4:Option Addr) (xn4 xc4:Nat) (xa5:Option Addr) (xn5 xc5:Nat),j + 1 ≤ k∧k ≤ 65536∧Hid ((fun (q:Ast × Bool) k=>R.bd (if sees E k [[46]] then (ref E gk (k + 1)).bd fun r m=>R.ok (⟨s :: r.names,q.1 :: r.index,q.2 :: r.has⟩:Rf) m else R.ok (⟨[s],[q.1],[q.2]⟩:Rf) k) (fun r k=>.ok (⟨ns ++ r.names,is ++ r.index,hs ++ r.has⟩:Rf) k)) (x,H2) k=Rr)∧Hid (Holds wx bi 41 [.int .i64 (x.kind:Int),.int .i64 x.n,.string ⟨x.name.toArray⟩,.string ⟨x.label.toArray⟩,.slice xa1 xn1 xc1,.slice xa2 xn2 xc2,.slice xa3 xn3 xc3,.slice xa4 xn4 xc4,.slice xa5 xn5 xc5])∧Hid (AstF (fun k=>w8.heap.size ≤ k∧k ≠ bi) wx x (.slice xa1 xn1 xc1) (.slice xa2 xn2 xc2) (.slice xa3 xn3 xc3) (.slice xa4 xn4 xc4) (.slice xa5 xn5 xc5))∧Hid (Fp p w8 wx)∧Hid (Par wx p vl E k))
     case first=>
      cases H2 with
      | true=>
       have hR:=HR.out
       rw [if_pos rfl,bd_bd] at hR
       clear HR
       rw [show j + 1 + 1=j + 2 by omega] at hR
       have hxn:expr E gk 0 (j + 2) ≠ .out:=fun h=>by rw [h] at hR;exact HNE.out hR.symm
       have hPd:=HPc.out
       rw [if_pos rfl] at hPd
       have HPd:=Lib.hid hPd
       have HFd:=Lib.hid HFc.out
       have HAd:=Lib.hid HA.out
       clear hPd HPc HFc HA
       have hRr:=hR
       clear hR
       have hbc:bi < wc.heap.size:=HAd.out.lt
       have HC':=(HIH.out gk (by omega)).expr (lvl:=0) HPd.out (by omega) hxn
       cases h1:expr E gk 0 (j + 2) with
       | out=>exact absurd h1 hxn
       | bad c a=>
        rw [h1] at HC' hRr
        have HC:=Lib.hid HC'
        have HR:=Lib.hid hRr
        clear h1 HC' hRr hxn
        go_wp2_with (fail)
        refine (HC.out).mono ?_
        rintro e wz ⟨rfl,hF⟩
        rw [← HR.out]
        exact ⟨rfl,rfl,HST8.out.fp.trans (HFd.out.trans hF)⟩
       | ok x k=>
        have HK:=Lib.hid ((advE E gk).expr h1)
        rw [h1] at HC' hRr
        have HC:=Lib.hid HC'
        have HR:=Lib.hid hRr
        clear h1 HC' hRr
        go_wp2_with (fail)
        refine (HC.out).mono ?_
        rintro e w11 ⟨vw11,rfl,⟨vn,vi,vh,vk,va,rfl,hvx⟩,hPq,hFq⟩
        obtain ⟨xa1,xn1,xc1,xa2,xn2,xc2,xa3,xn3,xc3,xa4,xn4,xc4,xa5,xn5,xc5,rfl,rfl,rfl,rfl,rfl⟩:=hvx.forms
        unfold Ast.val
        have hRr:=HR.out
        try simp only [R.bd] at hRr
        have HP11:=Lib.hid hPq
        have HF11:=Lib.hid (HFd.out.trans hFq)
        have HA11:=Lib.hid (HAd.out.fp hFq (by omega))
        clear HPd HFd HAd
        clear hPq hFq HR HC
        have HVx11:=Lib.hid hvx
        clear hvx
        have hv2:=HVx11.out.mono (Q:=fun k=>w8.heap.size ≤ k∧k ≠ bi) (fun k hk hs=>by have h:wc.heap.size ≤ k:=hk;exact ⟨by omega,by omega⟩)
        clear HVx11
        have HVx11:=Lib.hid hv2
        clear hv2
        obtain ⟨a0,a1,a2,a3,a4,a5,a6,a7,a8⟩:=HA11.out.cells9
        obtain ⟨g0,g1,g2,g3,g4,g5,g6,g7,g8⟩:=HA11.out.free9
        have HRr:=Lib.hid hRr
        clear hRr
        go_wp2_with (fail)
        have hRr:=HRr.out
        clear HRr a0 a1 a2 a3 a4 a5 a6 a7 a8 g0 g1 g2 g3 g4 g5 g6 g7 g8
        obtain ⟨w12,hW12⟩:∃ W,W=(((((((((w11.setCell ⟨bi,0,none⟩ (.int .i64 (x.kind:Int))).setCell ⟨bi,1,none⟩ (.int .i64 x.n)).setCell ⟨bi,2,none⟩ (.string ⟨x.name.toArray⟩)).setCell ⟨bi,3,none⟩ (.string ⟨x.label.toArray⟩)).setCell ⟨bi,4,none⟩ (.slice xa1 xn1 xc1)).setCell ⟨bi,5,none⟩ (.slice xa2 xn2 xc2)).setCell ⟨bi,6,none⟩ (.slice xa3 xn3 xc3)).setCell ⟨bi,7,none⟩ (.slice xa4 xn4 xc4)).setCell ⟨bi,8,none⟩ (.slice xa5 xn5 xc5)):=⟨_,rfl⟩
        have hP12:=Par.setR (b:=bi) (by omega) [.int .i64 (x.kind:Int),.int .i64 x.n,.string ⟨x.name.toArray⟩,.string ⟨x.label.toArray⟩,.slice xa1 xn1 xc1,.slice xa2 xn2 xc2,.slice xa3 xn3 xc3,.slice xa4 xn4 xc4,.slice xa5 xn5 xc5] 0 HP11.out
        have hF12:=Fp.setR (b:=bi) (by omega) [.int .i64 (x.kind:Int),.int .i64 x.n,.string ⟨x.name.toArray⟩,.string ⟨x.label.toArray⟩,.slice xa1 xn1 xc1,.slice xa2 xn2 xc2,.slice xa3 xn3 xc3,.slice xa4 xn4 xc4,.slice xa5 xn5 xc5] 0 HF11.out
        have hA12:=Holds.setR [.int .i64 (x.kind:Int),.int .i64 x.n,.string ⟨x.name.toArray⟩,.string ⟨x.label.toArray⟩,.slice xa1 xn1 xc1,.slice xa2 xn2 xc2,.slice xa3 xn3 xc3,.slice xa4 xn4 xc4,.slice xa5 xn5 xc5] 0 HA11.out
        have hVx12:=HVx11.out.up (Keep.setR (b:=bi) (fun h=>h.2 rfl) [.int .i64 (x.kind:Int),.int .i64 x.n,.string ⟨x.name.toArray⟩,.string ⟨x.label.toArray⟩,.slice xa1 xn1 xc1,.slice xa2 xn2 xc2,.slice xa3 xn3 xc3,.slice xa4 xn4 xc4,.slice xa5 xn5 xc5] 0)
        simp only [setR,Nat.reduceAdd,Nat.zero_add] at hP12 hF12 hA12 hVx12
        rw [← hW12] at hP12 hF12 hA12 hVx12
        rw [← hW12]
        have HP12:=Lib.hid hP12
        have HF12:=Lib.hid hF12
        have HA12:=Lib.hid hA12
        have HVx12:=Lib.hid hVx12
        clear hP12 hF12 hA12 hVx12 hW12
        clear HP11 HF11 HA11 HVx11
        have HC':=needFn HP12.out [93]
        cases h1:need E [93] k with
        | out=>exact absurd h1 need_ne
        | bad c a=>
         rw [h1] at HC' hRr
         have HC:=Lib.hid HC'
         have HR:=Lib.hid hRr
         clear h1 HC' hRr 
         skip
         refine (HC.out).mono ?_
         rintro e wz ⟨rfl,hF⟩
         rw [← HR.out]
         exact ⟨rfl,rfl,HST8.out.fp.trans (HF12.out.trans hF)⟩
        | ok u m=>
         have HN:=Lib.hid h1
         rw [h1] at HC' hRr
         have HC:=Lib.hid HC'
         have HR:=Lib.hid hRr
         clear h1 HC' hRr
         skip
         refine (HC.out).mono ?_
         rintro e w13 ⟨vw13,rfl,hv,hPq,hFq⟩
         have hRr:=HR.out
         try simp only [R.bd] at hRr
         have HP13:=Lib.hid hPq
         have HF13:=Lib.hid (HF12.out.trans hFq)
         have HA13:=Lib.hid (HA12.out.fp hFq (by omega))
         have HVx13:=Lib.hid (HVx12.out.up (Keep.of_fp hFq (by show ¬ _;omega)))
         clear HP12 HF12 HA12 HVx12
         clear hPq hFq HR HC
         obtain rfl:=hv
         have HZ:=Lib.hid hRr
         clear hRr
         go_wp2_with (fail)
         go_meet
         case rel=>exact ⟨rfl,x,m,_,_,_,_,_,_,_,_,_,_,_,_,_,_,_,by have h1:=(need_pos HN.out);have h2:=HK.out;omega,Nat.le_trans HP13.out.le HP13.out.few,HZ.out,HA13,HVx13,HF13,HP13⟩
      | false=>
       have hR:=HR.out
       rw [if_neg (by decide)] at hR
       simp only [R.bd] at hR
       have hPd:=HPc.out
       rw [if_neg (by decide)] at hPd
       have hlj:=Nat.le_trans hPd.le hPd.few
       have HPd:=Lib.hid hPd
       have HZ:=Lib.hid hR
       clear hPd hR
       go_wp2_with (fail)
       go_meet
       case rel=>exact ⟨rfl,.zero,j + 1,_,_,_,_,_,_,_,_,_,_,_,_,_,_,_,Nat.le_refl _,hlj,HZ.out,HA,AstF.zero,HFc,HPd⟩
     case rest=>
      obtain ⟨_,x,k,xa1,xn1,xc1,xa2,xn2,xc2,xa3,xn3,xc3,xa4,xn4,xc4,xa5,xn5,xc5,hjk,hk65,HR,HA,HV,HF8,HPk⟩:=hcut
      have HSTd:=Lib.hid (HST8.out.fpc HF8.out HPk.out)
      have hlt1:∀ g,(Value.slice ai nn ci).ownBlock=some g→g < bi:=fun g e=>by have:=owns_lt HST8.out.i g e;omega
      have hlt2:∀ g,(Value.slice ah nn ch).ownBlock=some g→g < bi:=fun g e=>by have:=owns_lt HST8.out.h g e;omega
      have hxw:=HV.out.mono (Q:=But3 (w.heap.size + 1) (.slice an2 (nn + 1) cn2) (.slice ai nn ci) (.slice ah nn ch)) (fun k hk hs=>HST8.out.wide (Nat.le_refl _) k hk.1)
      have HX:=Lib.hid hxw
      have HL2:=Lib.hid hlt1
      have HL3:=Lib.hid hlt2
      have hbd:=HSTd.out.base
      clear hxw hlt1 hlt2 HV HF8 HPk HST8
      obtain ⟨wd,hwd⟩:∃ W,W=wc:=⟨_,rfl⟩
      rw [← hwd] at HSTd HA HX hbd
      rw [← hwd]
      clear hwd
      go_upto_region 6 with (fail)
      go_cut [2,3] (fun s2 s3 wx=>s2=.pointer (some ⟨w.heap.size,0,none⟩)∧s3=.bool H2∧∃ (ai2 ah2:Option Addr) (ci2 ch2:Nat) (fl2:List Value),Hid (RefSt w p vl E k [.slice an2 (nn + 1) cn2,.slice ai2 (nn + 1) ci2,.slice ah2 (nn + 1) ch2] (.slice an2 (nn + 1) cn2) (.slice ai2 (nn + 1) ci2) (.slice ah2 (nn + 1) ch2) (nn + 1) (nn + 1) (nn + 1) (ns ++ [s]) (is ++ [x]) (hs ++ [H2]) fl2 wx))
      case first=>
       have hS:∀ w',Fr (fun k=>(Value.slice ai nn ci).ownBlock=some k∨(Value.slice ah nn ch).ownBlock=some k) wd w'→Holds w' w.heap.size 38 [.slice an2 (nn + 1) cn2,.slice ai nn ci,.slice ah nn ch]∧Holds w' bi 41 [.int .i64 (x.kind:Int),.int .i64 x.n,.string ⟨x.name.toArray⟩,.string ⟨x.label.toArray⟩,.slice xa1 xn1 xc1,.slice xa2 xn2 xc2,.slice xa3 xn3 xc3,.slice xa4 xn4 xc4,.slice xa5 xn5 xc5]:=fun w' h=>⟨Fr.holds h HSTd.out.box (fun e=>by rcases e with e | e;have:=owns_ge HSTd.out.i _ e;omega;have:=owns_ge HSTd.out.h _ e;omega),Fr.holds h HA.out (fun e=>by rcases e with e | e;have:=HL2.out _ e;omega;have:=HL3.out _ e;omega)⟩
       have lr1:∀ w',Fr (fun k=>(Value.slice ai nn ci).ownBlock=some k∨(Value.slice ah nn ch).ownBlock=some k) wd w'→w'.cell? ⟨w.heap.size,1,none⟩=some (.slice ai nn ci):=fun w' h=>(hS w' h).1.cell 1
       have lr2:∀ w',Fr (fun k=>(Value.slice ai nn ci).ownBlock=some k∨(Value.slice ah nn ch).ownBlock=some k) wd w'→w'.cell? ⟨w.heap.size,2,none⟩=some (.slice ah nn ch):=fun w' h=>(hS w' h).1.cell 2
       have li0:∀ w',Fr (fun k=>(Value.slice ai nn ci).ownBlock=some k∨(Value.slice ah nn ch).ownBlock=some k) wd w'→w'.cell? ⟨bi,0,none⟩=some (.int .i64 (x.kind:Int)):=fun w' h=>(hS w' h).2.cell 0
       have li1:∀ w',Fr (fun k=>(Value.slice ai nn ci).ownBlock=some k∨(Value.slice ah nn ch).ownBlock=some k) wd w'→w'.cell? ⟨bi,1,none⟩=some (.int .i64 x.n):=fun w' h=>(hS w' h).2.cell 1
       have li2:∀ w',Fr (fun k=>(Value.slice ai nn ci).ownBlock=some k∨(Value.slice ah nn ch).ownBlock=some k) wd w'→w'.cell? ⟨bi,2,none⟩=some (.string ⟨x.name.toArray⟩):=fun w' h=>(hS w' h).2.cell 2
       have li3:∀ w',Fr (fun k=>(Value.slice ai nn ci).ownBlock=some k∨(Value.slice ah nn ch).ownBlock=some k) wd w'→w'.cell? ⟨bi,3,none⟩=some (.string ⟨x.label.toArray⟩):=fun w' h=>(hS w' h).2.cell 3
       have li4:∀ w',Fr (fun k=>(Value.slice ai nn ci).ownBlock=some k∨(Value.slice ah nn ch).ownBlock=some k) wd w'→w'.cell? ⟨bi,4,none⟩=some (.slice xa1 xn1 xc1):=fun w' h=>(hS w' h).2.cell 4
       have li5:∀ w',Fr (fun k=>(Value.slice ai nn ci).ownBlock=some k∨(Value.slice ah nn ch).ownBlock=some k) wd w'→w'.cell? ⟨bi,5,none⟩=some (.slice xa2 xn2 xc2):=fun w' h=>(hS w' h).2.cell 5
       have li6:∀ w',Fr (fun k=>(Value.slice ai nn ci).ownBlock=some k∨(Value.slice ah nn ch).ownBlock=some k) wd w'→w'.cell? ⟨bi,6,none⟩=some (.slice xa3 xn3 xc3):=fun w' h=>(hS w' h).2.cell 6
       have li7:∀ w',Fr (fun k=>(Value.slice ai nn ci).ownBlock=some k∨(Value.slice ah nn ch).ownBlock=some k) wd w'→w'.cell? ⟨bi,7,none⟩=some (.slice xa4 xn4 xc4):=fun w' h=>(hS w' h).2.cell 7
       have li8:∀ w',Fr (fun k=>(Value.slice ai nn ci).ownBlock=some k∨(Value.slice ah nn ch).ownBlock=some k) wd w'→w'.cell? ⟨bi,8,none⟩=some (.slice xa5 xn5 xc5):=fun w' h=>(hS w' h).2.cell 8
       clear hS
       have HTwd:=Lib.hid HSTd.out
       have HSwd:Hid (Fr (fun k=>(Value.slice ai nn ci).ownBlock=some k∨(Value.slice ah nn ch).ownBlock=some k) wd wd.drew):=(Fr.refl _ _).drew
       have HXwd:=Lib.hid HX.out
       go_wp2
       refine wp_region_T (S:=(fun w':World=>Fr (fun k=>(Value.slice ai nn ci).ownBlock=some k∨(Value.slice ah nn ch).ownBlock=some k) wd w')) [11,13] (by kernel_rfl) ?_
       have HSx:Hid (Fr (fun k=>(Value.slice ai nn ci).ownBlock=some k∨(Value.slice ah nn ch).ownBlock=some k) wd wd.drew):=(Fr.refl _ _).drew
       refine wpAnyT_take [11,13] (i:=0) (oi:={ dst:=some 21,op:=Op.fieldAddr 38 (Operand.tmp 2) 1,type:=0,pos:="parse.go:453",after:=#[],guard:=none }) (v:=.pointer (some ⟨w.heap.size,1,none⟩)) rfl (by kernel_rfl) (by kernel_rfl) (by kernel_rfl) (by kernel_rfl) (by kernel_rfl) (by kernel_rfl) (fun _ _ _ h=>h) (Or.inl ⟨by rfl,?_⟩) HSx.out ?_
       ·intro w hSw
        (try dsimp only at hSw)
        go_simp
       try simp only [Act.put,List.setIfInBounds_toArray,List.set_cons_zero,List.set_cons_succ]
       refine wpAnyT_take [11,13] (i:=1) (oi:={ dst:=some 22,op:=Op.load 35 (Operand.tmp 21),type:=35,pos:="parse.go:453",after:=#[{ on:=0,ground:=Ground.data }],guard:=none }) (v:=.slice ai nn ci) rfl (by kernel_rfl) (by kernel_rfl) (by kernel_rfl) (by kernel_rfl) (by kernel_rfl) (by kernel_rfl) (fun _ _ _ h=>h) (Or.inl ⟨by rfl,?_⟩) HSx.out ?_
       ·intro w hSw
        (try dsimp only at hSw)
        go_simp
       try simp only [Act.put,List.setIfInBounds_toArray,List.set_cons_zero,List.set_cons_succ]
       refine wpAnyT_take [11,13] (i:=2) (oi:={ dst:=some 23,op:=Op.load 41 (Operand.tmp 4),type:=41,pos:="parse.go:453",after:=#[],guard:=none }) (v:=.agg #[.int .i64 (x.kind:Int),.int .i64 x.n,.string ⟨x.name.toArray⟩,.string ⟨x.label.toArray⟩,.slice xa1 xn1 xc1,.slice xa2 xn2 xc2,.slice xa3 xn3 xc3,.slice xa4 xn4 xc4,.slice xa5 xn5 xc5]) rfl (by kernel_rfl) (by kernel_rfl) (by kernel_rfl) (by kernel_rfl) (by kernel_rfl) (by kernel_rfl) (fun _ _ _ h=>h) (Or.inl ⟨by rfl,?_⟩) HSx.out ?_
       ·intro w hSw
        (try dsimp only at hSw)
        go_simp
       try simp only [Act.put,List.setIfInBounds_toArray,List.set_cons_zero,List.set_cons_succ]
       refine wpAnyT_take [11,13] (i:=5) (oi:={ dst:=some 26,op:=Op.fieldAddr 38 (Operand.tmp 2) 2,type:=0,pos:="parse.go:453",after:=#[],guard:=none }) (v:=.pointer (some ⟨w.heap.size,2,none⟩)) rfl (by kernel_rfl) (by kernel_rfl) (by kernel_rfl) (by kernel_rfl) (by kernel_rfl) (by kernel_rfl) (fun _ _ _ h=>h) (Or.inl ⟨by rfl,?_⟩) HSx.out ?_
       ·intro w hSw
        (try dsimp only at hSw)
        go_simp
       try simp only [Act.put,List.setIfInBounds_toArray,List.set_cons_zero,List.set_cons_succ]
       refine wpAnyT_take [11,13] (i:=6) (oi:={ dst:=some 27,op:=Op.load 36 (Operand.tmp 26),type:=36,pos:="parse.go:453",after:=#[{ on:=5,ground:=Ground.data }],guard:=none }) (v:=.slice ah nn ch) rfl (by kernel_rfl) (by kernel_rfl) (by kernel_rfl) (by kernel_rfl) (by kernel_rfl) (by kernel_rfl) (fun _ _ _ h=>h) (Or.inl ⟨by rfl,?_⟩) HSx.out ?_
       ·intro w hSw
        (try dsimp only at hSw)
        go_simp
       try simp only [Act.put,List.setIfInBounds_toArray,List.set_cons_zero,List.set_cons_succ]
       refine wpAnyT_take [8,9,11,13] (i:=7) (oi:={ dst:=some 28,op:=Op.move (Operand.tmp 3),type:=4,pos:="parse.go:453",after:=#[],guard:=none }) (v:=.bool H2) rfl (by kernel_rfl) (by kernel_rfl) (by kernel_rfl) (by kernel_rfl) (by kernel_rfl) (by kernel_rfl) (fun _ _ _ h=>h) (Or.inl ⟨by rfl,?_⟩) HSx.out ?_
       ·intro w hSw
        (try dsimp only at hSw)
        go_simp
       try simp only [Act.put,List.setIfInBounds_toArray,List.set_cons_zero,List.set_cons_succ]
       have hTd:=HTwd.out.drew
       have hXd:=HXwd.out.up (show Keep _ wd wd.drew from fun k _ _=>rfl)
       obtain ⟨we,hwe⟩:∃ W,W=wd.drew:=⟨_,rfl⟩
       have hSd:=HSwd.out
       rw [← hwe] at hTd hXd hSd
       rw [← hwe]
       have HTwe:=Lib.hid hTd
       have HXwe:=Lib.hid hXd
       have HSwe:=Lib.hid hSd
       clear hTd hXd hSd hwe HTwd HXwd HSwd HSx
       refine wpAnyT_ready (rs:=[3,8]) (by kernel_rfl) (by simp) ?_
       refine AllReadyT.cons (o:={ dst:=some 24,op:=Op.buildSlice 35 1 #[(0,Operand.tmp 23)],type:=35,pos:="parse.go:453",after:=#[{ on:=2,ground:=Ground.data }],guard:=none }) rfl (fun K hK=>?_) (AllReadyT.cons (o:={ dst:=some 29,op:=Op.buildSlice 36 1 #[(0,Operand.tmp 28)],type:=36,pos:="parse.go:453",after:=#[{ on:=7,ground:=Ground.data }],guard:=none }) rfl (fun K hK=>?_) AllReadyT.nil)
       ·go_simp
        obtain ⟨wr1,hwr1⟩:∃ W,W=we.alloc (.cells #[.int .i64 (x.kind:Int),.int .i64 x.n,.string ⟨x.name.toArray⟩,.string ⟨x.label.toArray⟩,.slice xa1 xn1 xc1,.slice xa2 xn2 xc2,.slice xa3 xn3 xc3,.slice xa4 xn4 xc4,.slice xa5 xn5 xc5] 41):=⟨_,rfl⟩
        have hTn:=HTwe.out.alloc (.cells #[.int .i64 (x.kind:Int),.int .i64 x.n,.string ⟨x.name.toArray⟩,.string ⟨x.label.toArray⟩,.slice xa1 xn1 xc1,.slice xa2 xn2 xc2,.slice xa3 xn3 xc3,.slice xa4 xn4 xc4,.slice xa5 xn5 xc5] 41)
        have hSn:=Fr.alloc HSwe.out (.cells #[.int .i64 (x.kind:Int),.int .i64 x.n,.string ⟨x.name.toArray⟩,.string ⟨x.label.toArray⟩,.slice xa1 xn1 xc1,.slice xa2 xn2 xc2,.slice xa3 xn3 xc3,.slice xa4 xn4 xc4,.slice xa5 xn5 xc5] 41)
        have hQn:=Holds.new we 41 #[.int .i64 (x.kind:Int),.int .i64 x.n,.string ⟨x.name.toArray⟩,.string ⟨x.label.toArray⟩,.slice xa1 xn1 xc1,.slice xa2 xn2 xc2,.slice xa3 xn3 xc3,.slice xa4 xn4 xc4,.slice xa5 xn5 xc5]
        have hXn:=HXwe.out.up (Keep.below ((Below.refl we.heap.size we).alloc (Nat.le_refl _) (.cells #[.int .i64 (x.kind:Int),.int .i64 x.n,.string ⟨x.name.toArray⟩,.string ⟨x.label.toArray⟩,.slice xa1 xn1 xc1,.slice xa2 xn2 xc2,.slice xa3 xn3 xc3,.slice xa4 xn4 xc4,.slice xa5 xn5 xc5] 41)))
        rw [← hwr1] at hTn hSn hQn hXn
        rw [← hwr1]
        have HTwr1:=Lib.hid hTn
        have HSwr1:=Lib.hid hSn
        have HXwr1:=Lib.hid hXn
        have HQx:=Lib.hid hQn
        have hbwr1:we.heap.size < wr1.heap.size:=HQx.out.lt
        clear hTn hSn hQn hXn hwr1 HTwe
        refine hK.out _ _ (fun _=>HSwr1.out) ?_
        clear hK K
        try simp only [Act.put,List.setIfInBounds_toArray,List.set_cons_zero,List.set_cons_succ]
        refine wpAnyT_ready (rs:=[4,8]) (by kernel_rfl) (by simp) ?_
        refine AllReadyT.cons (o:={ dst:=some 25,op:=Op.call { callee:=Callee.builtin Builtin.append,args:=#[Operand.tmp 22,Operand.tmp 24],argTypes:=#[35,35] },type:=35,pos:="parse.go:453",after:=#[{ on:=1,ground:=Ground.data },{ on:=3,ground:=Ground.data }],guard:=none }) rfl (fun K hK=>?_) (AllReadyT.cons (o:={ dst:=some 29,op:=Op.buildSlice 36 1 #[(0,Operand.tmp 28)],type:=36,pos:="parse.go:453",after:=#[{ on:=7,ground:=Ground.data }],guard:=none }) rfl (fun K hK=>?_) AllReadyT.nil)
        ·rw [if_pos (by rfl)]
         obtain ⟨ix,zx,hi0,hz0,hz1,hz2,hz3⟩:=info_of listAst_info
         refine wp_append_own_at (.tmp 22) (.tmp 24) _ rfl (w.heap.size + 1) 41 ix zx 9 168 Tryz.underlying35 hi0 hz0 hz1 hz2 hz3 (by omega) _ nn fl rfl HTwr1.out.i ⟨we.heap.size,0,none⟩ 1 1 [.int .i64 (x.kind:Int),.int .i64 x.n,.string ⟨x.name.toArray⟩,.string ⟨x.label.toArray⟩,.slice xa1 xn1 xc1,.slice xa2 xn2 xc2,.slice xa3 xn3 xc3,.slice xa4 xn4 xc4,.slice xa5 xn5 xc5] rfl rfl (cells_of_holds HQx.out) (by simp [Value.oneCell']) (by unfold maxLen;omega) (by omega) (by have:=HTwr1.out.base;omega) ?_
         intro vx wr2 hown hgrow hat
         obtain ⟨ai2,ci2,rfl,hc1,hc2⟩:=owns_form hown
         clear hi0 hz0 hz1 hz2 hz3
         have HTwr2:=Lib.hid (HTwr1.out.grown_i hgrow hown hat HXwr1.out)
         have hF:Fr (fun k=>(Value.slice ai nn ci).ownBlock=some k) wr1 wr2:=Fr.grown (Fr.refl _ _) hgrow fun k e _=>e
         have HSwr2:=Lib.hid (Fr.trans HSwr1.out hF (fun k _ e=>.inl e))
         clear hown hgrow hat HTwr1 HSwr1 HQx
         refine hK.out _ _ (fun _=>HSwr2.out) ?_
         clear hK K
         try simp only [Act.put,List.setIfInBounds_toArray,List.set_cons_zero,List.set_cons_succ]
         refine wpAnyT_take [11,13] (i:=10) (oi:={ dst:=some 31,op:=Op.fieldAddr 38 (Operand.tmp 2) 1,type:=0,pos:="parse.go:453",after:=#[{ on:=0,ground:=Ground.phase },{ on:=1,ground:=Ground.phase },{ on:=2,ground:=Ground.phase },{ on:=3,ground:=Ground.phase },{ on:=4,ground:=Ground.phase },{ on:=5,ground:=Ground.phase },{ on:=6,ground:=Ground.phase },{ on:=7,ground:=Ground.textOnly Departure.lateStores },{ on:=8,ground:=Ground.textOnly Departure.lateStores },{ on:=9,ground:=Ground.textOnly Departure.lateStoresUnsure }],guard:=none }) (v:=.pointer (some ⟨w.heap.size,1,none⟩)) rfl (by kernel_rfl) (by kernel_rfl) (by kernel_rfl) (by kernel_rfl) (by kernel_rfl) (by kernel_rfl) (fun _ _ _ h=>h) (Or.inl ⟨by rfl,?_⟩) HSwr2.out ?_
         ·intro w hSw
          (try dsimp only at hSw)
          go_simp
         try simp only [Act.put,List.setIfInBounds_toArray,List.set_cons_zero,List.set_cons_succ]
         refine wpAnyT_ready (rs:=[8]) (by kernel_rfl) (by simp) ?_
         refine AllReadyT.cons (o:={ dst:=some 29,op:=Op.buildSlice 36 1 #[(0,Operand.tmp 28)],type:=36,pos:="parse.go:453",after:=#[{ on:=7,ground:=Ground.data }],guard:=none }) rfl (fun K hK=>?_) AllReadyT.nil
         go_simp
         obtain ⟨wr3,hwr3⟩:∃ W,W=wr2.alloc (.cells #[.bool H2] 4):=⟨_,rfl⟩
         have hTn:=HTwr2.out.alloc (.cells #[.bool H2] 4)
         have hSn:=Fr.alloc HSwr2.out (.cells #[.bool H2] 4)
         have hQn:=Holds.new wr2 4 #[.bool H2]
         rw [← hwr3] at hTn hSn hQn
         rw [← hwr3]
         have HTwr3:=Lib.hid hTn
         have HSwr3:=Lib.hid hSn
         have HQh:=Lib.hid hQn
         have hbwr3:wr2.heap.size < wr3.heap.size:=HQh.out.lt
         clear hTn hSn hQn hwr3 HTwr2
         refine hK.out _ _ (fun _=>HSwr3.out) ?_
         clear hK K
         try simp only [Act.put,List.setIfInBounds_toArray,List.set_cons_zero,List.set_cons_succ]
         refine wpAnyT_ready (rs:=[9]) (by kernel_rfl) (by simp) ?_
         refine AllReadyT.cons (o:={ dst:=some 30,op:=Op.call { callee:=Callee.builtin Builtin.append,args:=#[Operand.tmp 27,Operand.tmp 29],argTypes:=#[36,36] },type:=36,pos:="parse.go:453",after:=#[{ on:=6,ground:=Ground.data },{ on:=8,ground:=Ground.data },{ on:=4,ground:=Ground.chain }],guard:=none }) rfl (fun K hK=>?_) AllReadyT.nil
         rw [if_pos (by rfl)]
         obtain ⟨ih,zh,hi0,hz0,hz1,hz2,hz3⟩:=info_of bool_info
         refine wp_append_own_at (.tmp 27) (.tmp 29) _ rfl (w.heap.size + 1) 4 ih zh 1 1 Tryz.underlying36 hi0 hz0 hz1 hz2 hz3 (by omega) _ nn (hs.map .bool) rfl HTwr3.out.h ⟨wr2.heap.size,0,none⟩ 1 1 [.bool H2] rfl rfl (cells_of_holds HQh.out) (by simp [Value.oneCell']) (by unfold maxLen;omega) (by omega) (by have:=HTwr3.out.base;omega) ?_
         intro vh wr4 hown hgrow hat
         obtain ⟨ah2,ch2,rfl,hc1,hc2⟩:=owns_form hown
         clear hi0 hz0 hz1 hz2 hz3
         have HTwr4:=Lib.hid (HTwr3.out.grown_h hgrow hown hat)
         have hF:Fr (fun k=>(Value.slice ah nn ch).ownBlock=some k) wr3 wr4:=Fr.grown (Fr.refl _ _) hgrow fun k e _=>e
         have HSwr4:=Lib.hid (Fr.trans HSwr3.out hF (fun k _ e=>.inr e))
         clear hown hgrow hat HTwr3 HSwr3 HQh
         refine hK.out _ _ (fun _=>HSwr4.out) ?_
         clear hK K
         try simp only [Act.put,List.setIfInBounds_toArray,List.set_cons_zero,List.set_cons_succ]
         refine wpAnyT_ready (rs:=[11]) (by kernel_rfl) (by simp) ?_
         refine AllReadyT.cons (o:={ dst:=none,op:=Op.store 35 (Operand.tmp 31) (Operand.tmp 25),type:=0,pos:="parse.go:453",after:=#[{ on:=10,ground:=Ground.data },{ on:=4,ground:=Ground.data },{ on:=9,ground:=Ground.chain },{ on:=0,ground:=Ground.phase },{ on:=1,ground:=Ground.phase },{ on:=2,ground:=Ground.phase },{ on:=3,ground:=Ground.phase },{ on:=4,ground:=Ground.phase },{ on:=5,ground:=Ground.phase },{ on:=6,ground:=Ground.phase },{ on:=7,ground:=Ground.textOnly Departure.lateStores },{ on:=8,ground:=Ground.textOnly Departure.lateStores },{ on:=9,ground:=Ground.textOnly Departure.lateStoresUnsure }],guard:=none }) rfl (fun K hK=>?_) AllReadyT.nil
         have b1:wr4.cell? ⟨w.heap.size,1,none⟩=some (.slice ai nn ci):=HTwr4.out.box.cell 1
         have g1:wr4.frozen? ⟨w.heap.size,1,none⟩=false:=HTwr4.out.box.free 1
         have b2:wr4.cell? ⟨w.heap.size,2,none⟩=some (.slice ah nn ch):=HTwr4.out.box.cell 2
         have g2:wr4.frozen? ⟨w.heap.size,2,none⟩=false:=HTwr4.out.box.free 2
         go_simp
         refine hK.out _ _ (fun h=>absurd h (by decide)) ?_
         clear hK K
         try simp only [Act.put,List.setIfInBounds_toArray,List.set_cons_zero,List.set_cons_succ]
         refine wpAnyT_ready (rs:=[12]) (by kernel_rfl) (by simp) ?_
         refine AllReadyT.cons (o:={ dst:=some 32,op:=Op.fieldAddr 38 (Operand.tmp 2) 2,type:=0,pos:="parse.go:453",after:=#[{ on:=0,ground:=Ground.phase },{ on:=1,ground:=Ground.phase },{ on:=2,ground:=Ground.phase },{ on:=3,ground:=Ground.phase },{ on:=4,ground:=Ground.phase },{ on:=5,ground:=Ground.phase },{ on:=6,ground:=Ground.phase },{ on:=7,ground:=Ground.phase },{ on:=8,ground:=Ground.phase },{ on:=9,ground:=Ground.phase },{ on:=10,ground:=Ground.phase },{ on:=11,ground:=Ground.phase }],guard:=none }) rfl (fun K hK=>?_) AllReadyT.nil
         go_simp
         refine hK.out _ _ (fun h=>absurd h (by decide)) ?_
         clear hK K
         try simp only [Act.put,List.setIfInBounds_toArray,List.set_cons_zero,List.set_cons_succ]
         refine wpAnyT_ready (rs:=[13]) (by kernel_rfl) (by simp) ?_
         refine AllReadyT.cons (o:={ dst:=none,op:=Op.store 36 (Operand.tmp 32) (Operand.tmp 30),type:=0,pos:="parse.go:453",after:=#[{ on:=12,ground:=Ground.data },{ on:=9,ground:=Ground.data },{ on:=11,ground:=Ground.chain },{ on:=0,ground:=Ground.phase },{ on:=1,ground:=Ground.phase },{ on:=2,ground:=Ground.phase },{ on:=3,ground:=Ground.phase },{ on:=4,ground:=Ground.phase },{ on:=5,ground:=Ground.phase },{ on:=6,ground:=Ground.phase },{ on:=7,ground:=Ground.phase },{ on:=8,ground:=Ground.phase },{ on:=9,ground:=Ground.phase },{ on:=10,ground:=Ground.phase },{ on:=11,ground:=Ground.phase }],guard:=none }) rfl (fun K hK=>?_) AllReadyT.nil
         go_simp
         refine hK.out _ _ (fun h=>absurd h (by decide)) ?_
         clear hK K
         try simp only [Act.put,List.setIfInBounds_toArray,List.set_cons_zero,List.set_cons_succ]
         refine wpAnyT_done (by kernel_rfl) ?_ _
         have hst:=(HTwr4.out.set 1 (.slice ai2 (nn + 1) ci2)).set 2 (.slice ah2 (nn + 1) ch2)
         have HSTz:=Lib.hid hst
         clear hst b1 g1 b2 g2
         go_wp2_with (fail)
         go_meet
         case rel=>exact ⟨rfl,rfl,_,_,_,_,_,HSTz⟩
        ·go_simp
         obtain ⟨wr2,hwr2⟩:∃ W,W=wr1.alloc (.cells #[.bool H2] 4):=⟨_,rfl⟩
         have hTn:=HTwr1.out.alloc (.cells #[.bool H2] 4)
         have hSn:=Fr.alloc HSwr1.out (.cells #[.bool H2] 4)
         have hQn:=Holds.new wr1 4 #[.bool H2]
         have hXn:=HXwr1.out.up (Keep.below ((Below.refl wr1.heap.size wr1).alloc (Nat.le_refl _) (.cells #[.bool H2] 4)))
         have hrx:=HQx.out.alloc (.cells #[.bool H2] 4)
         rw [← hwr2] at hTn hSn hQn hXn hrx
         rw [← hwr2]
         have HTwr2:=Lib.hid hTn
         have HSwr2:=Lib.hid hSn
         have HXwr2:=Lib.hid hXn
         clear HQx
         have HQx:=Lib.hid hrx
         have HQh:=Lib.hid hQn
         have hbwr2:wr1.heap.size < wr2.heap.size:=HQh.out.lt
         clear hTn hSn hQn hXn hrx hwr2 HTwr1
         refine hK.out _ _ (fun _=>HSwr2.out) ?_
         clear hK K
         try simp only [Act.put,List.setIfInBounds_toArray,List.set_cons_zero,List.set_cons_succ]
         refine wpAnyT_ready (rs:=[4]) (by kernel_rfl) (by simp) ?_
         refine AllReadyT.cons (o:={ dst:=some 25,op:=Op.call { callee:=Callee.builtin Builtin.append,args:=#[Operand.tmp 22,Operand.tmp 24],argTypes:=#[35,35] },type:=35,pos:="parse.go:453",after:=#[{ on:=1,ground:=Ground.data },{ on:=3,ground:=Ground.data }],guard:=none }) rfl (fun K hK=>?_) AllReadyT.nil
         rw [if_pos (by rfl)]
         obtain ⟨ix,zx,hi0,hz0,hz1,hz2,hz3⟩:=info_of listAst_info
         refine wp_append_own_at (.tmp 22) (.tmp 24) _ rfl (w.heap.size + 1) 41 ix zx 9 168 Tryz.underlying35 hi0 hz0 hz1 hz2 hz3 (by omega) _ nn fl rfl HTwr2.out.i ⟨we.heap.size,0,none⟩ 1 1 [.int .i64 (x.kind:Int),.int .i64 x.n,.string ⟨x.name.toArray⟩,.string ⟨x.label.toArray⟩,.slice xa1 xn1 xc1,.slice xa2 xn2 xc2,.slice xa3 xn3 xc3,.slice xa4 xn4 xc4,.slice xa5 xn5 xc5] rfl rfl (cells_of_holds HQx.out) (by simp [Value.oneCell']) (by unfold maxLen;omega) (by omega) (by have:=HTwr2.out.base;omega) ?_
         intro vx wr3 hown hgrow hat
         obtain ⟨ai2,ci2,rfl,hc1,hc2⟩:=owns_form hown
         clear hi0 hz0 hz1 hz2 hz3
         have HTwr3:=Lib.hid (HTwr2.out.grown_i hgrow hown hat HXwr2.out)
         have hF:Fr (fun k=>(Value.slice ai nn ci).ownBlock=some k) wr2 wr3:=Fr.grown (Fr.refl _ _) hgrow fun k e _=>e
         have HSwr3:=Lib.hid (Fr.trans HSwr2.out hF (fun k _ e=>.inl e))
         have hrh:=Fr.holds hF HQh.out (fun e=>owns_ne_holds HTwr2.out.i HQh.out (by decide) e)
         clear HQh
         have HQh:=Lib.hid hrh
         clear hrh
         clear hown hgrow hat HTwr2 HSwr2 HQx
         refine hK.out _ _ (fun _=>HSwr3.out) ?_
         clear hK K
         try simp only [Act.put,List.setIfInBounds_toArray,List.set_cons_zero,List.set_cons_succ]
         refine wpAnyT_take [11,13] (i:=10) (oi:={ dst:=some 31,op:=Op.fieldAddr 38 (Operand.tmp 2) 1,type:=0,pos:="parse.go:453",after:=#[{ on:=0,ground:=Ground.phase },{ on:=1,ground:=Ground.phase },{ on:=2,ground:=Ground.phase },{ on:=3,ground:=Ground.phase },{ on:=4,ground:=Ground.phase },{ on:=5,ground:=Ground.phase },{ on:=6,ground:=Ground.phase },{ on:=7,ground:=Ground.textOnly Departure.lateStores },{ on:=8,ground:=Ground.textOnly Departure.lateStores },{ on:=9,ground:=Ground.textOnly Departure.lateStoresUnsure }],guard:=none }) (v:=.pointer (some ⟨w.heap.size,1,none⟩)) rfl (by kernel_rfl) (by kernel_rfl) (by kernel_rfl) (by kernel_rfl) (by kernel_rfl) (by kernel_rfl) (fun _ _ _ h=>h) (Or.inl ⟨by rfl,?_⟩) HSwr3.out ?_
         ·intro w hSw
          (try dsimp only at hSw)
          go_simp
         try simp only [Act.put,List.setIfInBounds_toArray,List.set_cons_zero,List.set_cons_succ]
         refine wpAnyT_ready (rs:=[9]) (by kernel_rfl) (by simp) ?_
         refine AllReadyT.cons (o:={ dst:=some 30,op:=Op.call { callee:=Callee.builtin Builtin.append,args:=#[Operand.tmp 27,Operand.tmp 29],argTypes:=#[36,36] },type:=36,pos:="parse.go:453",after:=#[{ on:=6,ground:=Ground.data },{ on:=8,ground:=Ground.data },{ on:=4,ground:=Ground.chain }],guard:=none }) rfl (fun K hK=>?_) AllReadyT.nil
         rw [if_pos (by rfl)]
         obtain ⟨ih,zh,hi0,hz0,hz1,hz2,hz3⟩:=info_of bool_info
         refine wp_append_own_at (.tmp 27) (.tmp 29) _ rfl (w.heap.size + 1) 4 ih zh 1 1 Tryz.underlying36 hi0 hz0 hz1 hz2 hz3 (by omega) _ nn (hs.map .bool) rfl HTwr3.out.h ⟨wr1.heap.size,0,none⟩ 1 1 [.bool H2] rfl rfl (cells_of_holds HQh.out) (by simp [Value.oneCell']) (by unfold maxLen;omega) (by omega) (by have:=HTwr3.out.base;omega) ?_
         intro vh wr4 hown hgrow hat
         obtain ⟨ah2,ch2,rfl,hc1,hc2⟩:=owns_form hown
         clear hi0 hz0 hz1 hz2 hz3
         have HTwr4:=Lib.hid (HTwr3.out.grown_h hgrow hown hat)
         have hF:Fr (fun k=>(Value.slice ah nn ch).ownBlock=some k) wr3 wr4:=Fr.grown (Fr.refl _ _) hgrow fun k e _=>e
         have HSwr4:=Lib.hid (Fr.trans HSwr3.out hF (fun k _ e=>.inr e))
         clear hown hgrow hat HTwr3 HSwr3 HQh
         refine hK.out _ _ (fun _=>HSwr4.out) ?_
         clear hK K
         try simp only [Act.put,List.setIfInBounds_toArray,List.set_cons_zero,List.set_cons_succ]
         refine wpAnyT_ready (rs:=[11]) (by kernel_rfl) (by simp) ?_
         refine AllReadyT.cons (o:={ dst:=none,op:=Op.store 35 (Operand.tmp 31) (Operand.tmp 25),type:=0,pos:="parse.go:453",after:=#[{ on:=10,ground:=Ground.data },{ on:=4,ground:=Ground.data },{ on:=9,ground:=Ground.chain },{ on:=0,ground:=Ground.phase },{ on:=1,ground:=Ground.phase },{ on:=2,ground:=Ground.phase },{ on:=3,ground:=Ground.phase },{ on:=4,ground:=Ground.phase },{ on:=5,ground:=Ground.phase },{ on:=6,ground:=Ground.phase },{ on:=7,ground:=Ground.textOnly Departure.lateStores },{ on:=8,ground:=Ground.textOnly Departure.lateStores },{ on:=9,ground:=Ground.textOnly Departure.lateStoresUnsure }],guard:=none }) rfl (fun K hK=>?_) AllReadyT.nil
         have b1:wr4.cell? ⟨w.heap.size,1,none⟩=some (.slice ai nn ci):=HTwr4.out.box.cell 1
         have g1:wr4.frozen? ⟨w.heap.size,1,none⟩=false:=HTwr4.out.box.free 1
         have b2:wr4.cell? ⟨w.heap.size,2,none⟩=some (.slice ah nn ch):=HTwr4.out.box.cell 2
         have g2:wr4.frozen? ⟨w.heap.size,2,none⟩=false:=HTwr4.out.box.free 2
         go_simp
         refine hK.out _ _ (fun h=>absurd h (by decide)) ?_
         clear hK K
         try simp only [Act.put,List.setIfInBounds_toArray,List.set_cons_zero,List.set_cons_succ]
         refine wpAnyT_ready (rs:=[12]) (by kernel_rfl) (by simp) ?_
         refine AllReadyT.cons (o:={ dst:=some 32,op:=Op.fieldAddr 38 (Operand.tmp 2) 2,type:=0,pos:="parse.go:453",after:=#[{ on:=0,ground:=Ground.phase },{ on:=1,ground:=Ground.phase },{ on:=2,ground:=Ground.phase },{ on:=3,ground:=Ground.phase },{ on:=4,ground:=Ground.phase },{ on:=5,ground:=Ground.phase },{ on:=6,ground:=Ground.phase },{ on:=7,ground:=Ground.phase },{ on:=8,ground:=Ground.phase },{ on:=9,ground:=Ground.phase },{ on:=10,ground:=Ground.phase },{ on:=11,ground:=Ground.phase }],guard:=none }) rfl (fun K hK=>?_) AllReadyT.nil
         go_simp
         refine hK.out _ _ (fun h=>absurd h (by decide)) ?_
         clear hK K
         try simp only [Act.put,List.setIfInBounds_toArray,List.set_cons_zero,List.set_cons_succ]
         refine wpAnyT_ready (rs:=[13]) (by kernel_rfl) (by simp) ?_
         refine AllReadyT.cons (o:={ dst:=none,op:=Op.store 36 (Operand.tmp 32) (Operand.tmp 30),type:=0,pos:="parse.go:453",after:=#[{ on:=12,ground:=Ground.data },{ on:=9,ground:=Ground.data },{ on:=11,ground:=Ground.chain },{ on:=0,ground:=Ground.phase },{ on:=1,ground:=Ground.phase },{ on:=2,ground:=Ground.phase },{ on:=3,ground:=Ground.phase },{ on:=4,ground:=Ground.phase },{ on:=5,ground:=Ground.phase },{ on:=6,ground:=Ground.phase },{ on:=7,ground:=Ground.phase },{ on:=8,ground:=Ground.phase },{ on:=9,ground:=Ground.phase },{ on:=10,ground:=Ground.phase },{ on:=11,ground:=Ground.phase }],guard:=none }) rfl (fun K hK=>?_) AllReadyT.nil
         go_simp
         refine hK.out _ _ (fun h=>absurd h (by decide)) ?_
         clear hK K
         try simp only [Act.put,List.setIfInBounds_toArray,List.set_cons_zero,List.set_cons_succ]
         refine wpAnyT_done (by kernel_rfl) ?_ _
         have hst:=(HTwr4.out.set 1 (.slice ai2 (nn + 1) ci2)).set 2 (.slice ah2 (nn + 1) ch2)
         have HSTz:=Lib.hid hst
         clear hst b1 g1 b2 g2
         go_wp2_with (fail)
         go_meet
         case rel=>exact ⟨rfl,rfl,_,_,_,_,_,HSTz⟩
       ·go_simp
        obtain ⟨wr1,hwr1⟩:∃ W,W=we.alloc (.cells #[.bool H2] 4):=⟨_,rfl⟩
        have hTn:=HTwe.out.alloc (.cells #[.bool H2] 4)
        have hSn:=Fr.alloc HSwe.out (.cells #[.bool H2] 4)
        have hQn:=Holds.new we 4 #[.bool H2]
        have hXn:=HXwe.out.up (Keep.below ((Below.refl we.heap.size we).alloc (Nat.le_refl _) (.cells #[.bool H2] 4)))
        rw [← hwr1] at hTn hSn hQn hXn
        rw [← hwr1]
        have HTwr1:=Lib.hid hTn
        have HSwr1:=Lib.hid hSn
        have HXwr1:=Lib.hid hXn
        have HQh:=Lib.hid hQn
        have hbwr1:we.heap.size < wr1.heap.size:=HQh.out.lt
        clear hTn hSn hQn hXn hwr1 HTwe
        refine hK.out _ _ (fun _=>HSwr1.out) ?_
        clear hK K
        try simp only [Act.put,List.setIfInBounds_toArray,List.set_cons_zero,List.set_cons_succ]
        refine wpAnyT_ready (rs:=[3]) (by kernel_rfl) (by simp) ?_
        refine AllReadyT.cons (o:={ dst:=some 24,op:=Op.buildSlice 35 1 #[(0,Operand.tmp 23)],type:=35,pos:="parse.go:453",after:=#[{ on:=2,ground:=Ground.data }],guard:=none }) rfl (fun K hK=>?_) AllReadyT.nil
        go_simp
        obtain ⟨wr2,hwr2⟩:∃ W,W=wr1.alloc (.cells #[.int .i64 (x.kind:Int),.int .i64 x.n,.string ⟨x.name.toArray⟩,.string ⟨x.label.toArray⟩,.slice xa1 xn1 xc1,.slice xa2 xn2 xc2,.slice xa3 xn3 xc3,.slice xa4 xn4 xc4,.slice xa5 xn5 xc5] 41):=⟨_,rfl⟩
        have hTn:=HTwr1.out.alloc (.cells #[.int .i64 (x.kind:Int),.int .i64 x.n,.string ⟨x.name.toArray⟩,.string ⟨x.label.toArray⟩,.slice xa1 xn1 xc1,.slice xa2 xn2 xc2,.slice xa3 xn3 xc3,.slice xa4 xn4 xc4,.slice xa5 xn5 xc5] 41)
        have hSn:=Fr.alloc HSwr1.out (.cells #[.int .i64 (x.kind:Int),.int .i64 x.n,.string ⟨x.name.toArray⟩,.string ⟨x.label.toArray⟩,.slice xa1 xn1 xc1,.slice xa2 xn2 xc2,.slice xa3 xn3 xc3,.slice xa4 xn4 xc4,.slice xa5 xn5 xc5] 41)
        have hQn:=Holds.new wr1 41 #[.int .i64 (x.kind:Int),.int .i64 x.n,.string ⟨x.name.toArray⟩,.string ⟨x.label.toArray⟩,.slice xa1 xn1 xc1,.slice xa2 xn2 xc2,.slice xa3 xn3 xc3,.slice xa4 xn4 xc4,.slice xa5 xn5 xc5]
        have hXn:=HXwr1.out.up (Keep.below ((Below.refl wr1.heap.size wr1).alloc (Nat.le_refl _) (.cells #[.int .i64 (x.kind:Int),.int .i64 x.n,.string ⟨x.name.toArray⟩,.string ⟨x.label.toArray⟩,.slice xa1 xn1 xc1,.slice xa2 xn2 xc2,.slice xa3 xn3 xc3,.slice xa4 xn4 xc4,.slice xa5 xn5 xc5] 41)))
        have hrh:=HQh.out.alloc (.cells #[.int .i64 (x.kind:Int),.int .i64 x.n,.string ⟨x.name.toArray⟩,.string ⟨x.label.toArray⟩,.slice xa1 xn1 xc1,.slice xa2 xn2 xc2,.slice xa3 xn3 xc3,.slice xa4 xn4 xc4,.slice xa5 xn5 xc5] 41)
        rw [← hwr2] at hTn hSn hQn hXn hrh
        rw [← hwr2]
        have HTwr2:=Lib.hid hTn
        have HSwr2:=Lib.hid hSn
        have HXwr2:=Lib.hid hXn
        clear HQh
        have HQh:=Lib.hid hrh
        have HQx:=Lib.hid hQn
        have hbwr2:wr1.heap.size < wr2.heap.size:=HQx.out.lt
        clear hTn hSn hQn hXn hrh hwr2 HTwr1
        refine hK.out _ _ (fun _=>HSwr2.out) ?_
        clear hK K
        try simp only [Act.put,List.setIfInBounds_toArray,List.set_cons_zero,List.set_cons_succ]
        refine wpAnyT_ready (rs:=[4]) (by kernel_rfl) (by simp) ?_
        refine AllReadyT.cons (o:={ dst:=some 25,op:=Op.call { callee:=Callee.builtin Builtin.append,args:=#[Operand.tmp 22,Operand.tmp 24],argTypes:=#[35,35] },type:=35,pos:="parse.go:453",after:=#[{ on:=1,ground:=Ground.data },{ on:=3,ground:=Ground.data }],guard:=none }) rfl (fun K hK=>?_) AllReadyT.nil
        rw [if_pos (by rfl)]
        obtain ⟨ix,zx,hi0,hz0,hz1,hz2,hz3⟩:=info_of listAst_info
        refine wp_append_own_at (.tmp 22) (.tmp 24) _ rfl (w.heap.size + 1) 41 ix zx 9 168 Tryz.underlying35 hi0 hz0 hz1 hz2 hz3 (by omega) _ nn fl rfl HTwr2.out.i ⟨wr1.heap.size,0,none⟩ 1 1 [.int .i64 (x.kind:Int),.int .i64 x.n,.string ⟨x.name.toArray⟩,.string ⟨x.label.toArray⟩,.slice xa1 xn1 xc1,.slice xa2 xn2 xc2,.slice xa3 xn3 xc3,.slice xa4 xn4 xc4,.slice xa5 xn5 xc5] rfl rfl (cells_of_holds HQx.out) (by simp [Value.oneCell']) (by unfold maxLen;omega) (by omega) (by have:=HTwr2.out.base;omega) ?_
        intro vx wr3 hown hgrow hat
        obtain ⟨ai2,ci2,rfl,hc1,hc2⟩:=owns_form hown
        clear hi0 hz0 hz1 hz2 hz3
        have HTwr3:=Lib.hid (HTwr2.out.grown_i hgrow hown hat HXwr2.out)
        have hF:Fr (fun k=>(Value.slice ai nn ci).ownBlock=some k) wr2 wr3:=Fr.grown (Fr.refl _ _) hgrow fun k e _=>e
        have HSwr3:=Lib.hid (Fr.trans HSwr2.out hF (fun k _ e=>.inl e))
        have hrh:=Fr.holds hF HQh.out (fun e=>owns_ne_holds HTwr2.out.i HQh.out (by decide) e)
        clear HQh
        have HQh:=Lib.hid hrh
        clear hrh
        clear hown hgrow hat HTwr2 HSwr2 HQx
        refine hK.out _ _ (fun _=>HSwr3.out) ?_
        clear hK K
        try simp only [Act.put,List.setIfInBounds_toArray,List.set_cons_zero,List.set_cons_succ]
        refine wpAnyT_take [11,13] (i:=10) (oi:={ dst:=some 31,op:=Op.fieldAddr 38 (Operand.tmp 2) 1,type:=0,pos:="parse.go:453",after:=#[{ on:=0,ground:=Ground.phase },{ on:=1,ground:=Ground.phase },{ on:=2,ground:=Ground.phase },{ on:=3,ground:=Ground.phase },{ on:=4,ground:=Ground.phase },{ on:=5,ground:=Ground.phase },{ on:=6,ground:=Ground.phase },{ on:=7,ground:=Ground.textOnly Departure.lateStores },{ on:=8,ground:=Ground.textOnly Departure.lateStores },{ on:=9,ground:=Ground.textOnly Departure.lateStoresUnsure }],guard:=none }) (v:=.pointer (some ⟨w.heap.size,1,none⟩)) rfl (by kernel_rfl) (by kernel_rfl) (by kernel_rfl) (by kernel_rfl) (by kernel_rfl) (by kernel_rfl) (fun _ _ _ h=>h) (Or.inl ⟨by rfl,?_⟩) HSwr3.out ?_
        ·intro w hSw
         (try dsimp only at hSw)
         go_simp
        try simp only [Act.put,List.setIfInBounds_toArray,List.set_cons_zero,List.set_cons_succ]
        refine wpAnyT_ready (rs:=[9]) (by kernel_rfl) (by simp) ?_
        refine AllReadyT.cons (o:={ dst:=some 30,op:=Op.call { callee:=Callee.builtin Builtin.append,args:=#[Operand.tmp 27,Operand.tmp 29],argTypes:=#[36,36] },type:=36,pos:="parse.go:453",after:=#[{ on:=6,ground:=Ground.data },{ on:=8,ground:=Ground.data },{ on:=4,ground:=Ground.chain }],guard:=none }) rfl (fun K hK=>?_) AllReadyT.nil
        rw [if_pos (by rfl)]
        obtain ⟨ih,zh,hi0,hz0,hz1,hz2,hz3⟩:=info_of bool_info
        refine wp_append_own_at (.tmp 27) (.tmp 29) _ rfl (w.heap.size + 1) 4 ih zh 1 1 Tryz.underlying36 hi0 hz0 hz1 hz2 hz3 (by omega) _ nn (hs.map .bool) rfl HTwr3.out.h ⟨we.heap.size,0,none⟩ 1 1 [.bool H2] rfl rfl (cells_of_holds HQh.out) (by simp [Value.oneCell']) (by unfold maxLen;omega) (by omega) (by have:=HTwr3.out.base;omega) ?_
        intro vh wr4 hown hgrow hat
        obtain ⟨ah2,ch2,rfl,hc1,hc2⟩:=owns_form hown
        clear hi0 hz0 hz1 hz2 hz3
        have HTwr4:=Lib.hid (HTwr3.out.grown_h hgrow hown hat)
        have hF:Fr (fun k=>(Value.slice ah nn ch).ownBlock=some k) wr3 wr4:=Fr.grown (Fr.refl _ _) hgrow fun k e _=>e
        have HSwr4:=Lib.hid (Fr.trans HSwr3.out hF (fun k _ e=>.inr e))
        clear hown hgrow hat HTwr3 HSwr3 HQh
        refine hK.out _ _ (fun _=>HSwr4.out) ?_
        clear hK K
        try simp only [Act.put,List.setIfInBounds_toArray,List.set_cons_zero,List.set_cons_succ]
        refine wpAnyT_ready (rs:=[11]) (by kernel_rfl) (by simp) ?_
        refine AllReadyT.cons (o:={ dst:=none,op:=Op.store 35 (Operand.tmp 31) (Operand.tmp 25),type:=0,pos:="parse.go:453",after:=#[{ on:=10,ground:=Ground.data },{ on:=4,ground:=Ground.data },{ on:=9,ground:=Ground.chain },{ on:=0,ground:=Ground.phase },{ on:=1,ground:=Ground.phase },{ on:=2,ground:=Ground.phase },{ on:=3,ground:=Ground.phase },{ on:=4,ground:=Ground.phase },{ on:=5,ground:=Ground.phase },{ on:=6,ground:=Ground.phase },{ on:=7,ground:=Ground.textOnly Departure.lateStores },{ on:=8,ground:=Ground.textOnly Departure.lateStores },{ on:=9,ground:=Ground.textOnly Departure.lateStoresUnsure }],guard:=none }) rfl (fun K hK=>?_) AllReadyT.nil
        have b1:wr4.cell? ⟨w.heap.size,1,none⟩=some (.slice ai nn ci):=HTwr4.out.box.cell 1
        have g1:wr4.frozen? ⟨w.heap.size,1,none⟩=false:=HTwr4.out.box.free 1
        have b2:wr4.cell? ⟨w.heap.size,2,none⟩=some (.slice ah nn ch):=HTwr4.out.box.cell 2
        have g2:wr4.frozen? ⟨w.heap.size,2,none⟩=false:=HTwr4.out.box.free 2
        go_simp
        refine hK.out _ _ (fun h=>absurd h (by decide)) ?_
        clear hK K
        try simp only [Act.put,List.setIfInBounds_toArray,List.set_cons_zero,List.set_cons_succ]
        refine wpAnyT_ready (rs:=[12]) (by kernel_rfl) (by simp) ?_
        refine AllReadyT.cons (o:={ dst:=some 32,op:=Op.fieldAddr 38 (Operand.tmp 2) 2,type:=0,pos:="parse.go:453",after:=#[{ on:=0,ground:=Ground.phase },{ on:=1,ground:=Ground.phase },{ on:=2,ground:=Ground.phase },{ on:=3,ground:=Ground.phase },{ on:=4,ground:=Ground.phase },{ on:=5,ground:=Ground.phase },{ on:=6,ground:=Ground.phase },{ on:=7,ground:=Ground.phase },{ on:=8,ground:=Ground.phase },{ on:=9,ground:=Ground.phase },{ on:=10,ground:=Ground.phase },{ on:=11,ground:=Ground.phase }],guard:=none }) rfl (fun K hK=>?_) AllReadyT.nil
        go_simp
        refine hK.out _ _ (fun h=>absurd h (by decide)) ?_
        clear hK K
        try simp only [Act.put,List.setIfInBounds_toArray,List.set_cons_zero,List.set_cons_succ]
        refine wpAnyT_ready (rs:=[13]) (by kernel_rfl) (by simp) ?_
        refine AllReadyT.cons (o:={ dst:=none,op:=Op.store 36 (Operand.tmp 32) (Operand.tmp 30),type:=0,pos:="parse.go:453",after:=#[{ on:=12,ground:=Ground.data },{ on:=9,ground:=Ground.data },{ on:=11,ground:=Ground.chain },{ on:=0,ground:=Ground.phase },{ on:=1,ground:=Ground.phase },{ on:=2,ground:=Ground.phase },{ on:=3,ground:=Ground.phase },{ on:=4,ground:=Ground.phase },{ on:=5,ground:=Ground.phase },{ on:=6,ground:=Ground.phase },{ on:=7,ground:=Ground.phase },{ on:=8,ground:=Ground.phase },{ on:=9,ground:=Ground.phase },{ on:=10,ground:=Ground.phase },{ on:=11,ground:=Ground.phase }],guard:=none }) rfl (fun K hK=>?_) AllReadyT.nil
        go_simp
        refine hK.out _ _ (fun h=>absurd h (by decide)) ?_
        clear hK K
        try simp only [Act.put,List.setIfInBounds_toArray,List.set_cons_zero,List.set_cons_succ]
        refine wpAnyT_done (by kernel_rfl) ?_ _
        have hst:=(HTwr4.out.set 1 (.slice ai2 (nn + 1) ci2)).set 2 (.slice ah2 (nn + 1) ch2)
        have HSTz:=Lib.hid hst
        clear hst b1 g1 b2 g2
        go_wp2_with (fail)
        go_meet
        case rel=>exact ⟨rfl,rfl,_,_,_,_,_,HSTz⟩
      case rest=>
       obtain ⟨rfl,rfl,ai2,ah2,ci2,ch2,fl2,HSTz⟩:=hcut
       clear HA HX HL2 HL3 HSTd
       have hR:=HR.out
       dsimp only at hR
       clear HR
       obtain ⟨wz,hwz⟩:∃ W,W=wc:=⟨_,rfl⟩
       rw [← hwz] at HSTz
       rw [← hwz]
       clear hwz
       have hbr:Below wz.heap.size wz (wz.alloc (.cells #[.string ⟨#[46]⟩] 9)):=(Below.refl _ _).alloc (Nat.le_refl _) _
       have HSTr:=Lib.hid (HSTz.out.below hbr)
       have HLr:=Lib.hid (Holds.new wz 9 #[.string ⟨#[46]⟩])
       clear hbr HSTz
       cases hs2:sees E k [[46]] with
       | true=>
        simp only [hs2,if_true,bd_bd] at hR
        have hR2:(ref E gk (k + 1)).bd (fun r k=>.ok (⟨(ns ++ [s]) ++ r.names,(is ++ [x]) ++ r.index,(hs ++ [H2]) ++ r.has⟩:Rf) k)=Rr:=by
         rw [← hR]
         congr 1
         funext r m
         simp [R.bd]
        have HR:=Lib.hid hR2
        clear hR hR2
        have HT:=Lib.hid (takes_yes HSTr.out.par [[46]] HLr.out (by simp) hs2)
        go_wp2_with (fail)
        refine (HT.out).mono ?_
        rintro e wt ⟨rfl,hPq,hFq⟩
        have HSTt:=Lib.hid (HSTr.out.fpc hFq hPq)
        have hk3:=Nat.le_trans hPq.le hPq.few
        clear hPq hFq HT
        go_wp2
        go_roundg gk
        case measure=>omega
        case rel=>exact ⟨ns ++ [s],is ++ [x],hs ++ [H2],fl2,k + 1,nn + 1,an2,ai2,ah2,cn2,ci2,ch2,by omega,hk3,by omega,by have:=HLN.out;exact ⟨by simp [this.1],by simp [this.2.1],by simp [this.2.2]⟩,HR,HSTt⟩
       | false=>
        rw [hs2] at hR
        simp only [R.bd,Bool.false_eq_true,if_false] at hR
        have HZ:=Lib.hid hR
        clear hR
        have HT:=Lib.hid (takes_no HSTr.out.par [[46]] HLr.out (by simp) hs2)
        go_wp2_with (fail)
        refine (HT.out).mono ?_
        rintro e wt ⟨rfl,hbq⟩
        have HSTt:=Lib.hid (HSTr.out.below hbq)
        clear hbq HT
        have b0:wt.cell? ⟨w.heap.size,0,none⟩=some (.slice an2 (nn + 1) cn2):=HSTt.out.box.cell 0
        have g0:wt.frozen? ⟨w.heap.size,0,none⟩=false:=HSTt.out.box.free 0
        have b1:wt.cell? ⟨w.heap.size,1,none⟩=some (.slice ai2 (nn + 1) ci2):=HSTt.out.box.cell 1
        have g1:wt.frozen? ⟨w.heap.size,1,none⟩=false:=HSTt.out.box.free 1
        have b2:wt.cell? ⟨w.heap.size,2,none⟩=some (.slice ah2 (nn + 1) ch2):=HSTt.out.box.cell 2
        have g2:wt.frozen? ⟨w.heap.size,2,none⟩=false:=HSTt.out.box.free 2
        go_wp2
        have hst:=(((HSTt.out.set 0 (.slice an2 (nn + 1) cn2)).set 1 (.slice ai2 (nn + 1) ci2)).set 2 (.slice ah2 (nn + 1) ch2))
        refine bodyPost_ret (outRef Tryz.results147 hst.box rfl) rfl ?_
        rw [← HZ.out]
        have hl:=HLN.out
        exact ⟨_,rfl,hst.out (by simp [hl.1]) (by simp [hl.2.1]) (by simp [hl.2.2]),hst.par,hst.fp⟩
end Go.Proofs.YtpoghableadkcaaGreatDoor
