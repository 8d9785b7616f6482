/- The walk of simple (printed by mksim.py). -/
import Derived.Test.YtpoghableadkcaaGreatDoorM14
import Derived.Test.YtpoghableadkcaaGreatDoorM09
import Derived.Deep.DeepCutAuto
namespace Go.Proofs.YtpoghableadkcaaGreatDoor
open Go.RowKit
set_option linter.unusedVariables false
set_option linter.unusedSimpArgs false

theorem F2.trans {p b:Nat} {a w w':World} (h:F2 p b a w) (k:Fp p w w'):F2 p b a w':=h.fp k
theorem F2.setR {p b:Nat} {a:World}:∀ (xs:List Value) (i:Nat) {W:World},F2 p b a W→F2 p b a (Go.Proofs.YtpoghableadkcaaGreatDoor.setR W b i xs)
 | [],_,_,h=>h
 | x :: r,i,_,h=>F2.setR r (i + 1) (h.setb i x)
/-- What simple does. -/
def SimPost (p bs:Nat) (vl:Value) (E:Env) (w:World) (r:R Stm) (e:Ending) (w':World):Prop:=
 match r with
 | .out=>False
 | .bad c a=>e=.panicked (badChain c a)∧F2 p bs w w'
 | .ok s j=>e=.returned (.tuple #[])∧∃ cs,cs.length=28∧Holds w' bs 57 cs∧StmF (From w.heap.size) w' s cs∧Par w' p vl E j∧F2 p bs w w'

theorem StmF.of {P:Nat→Prop} {w:World} {kind at_:Nat} {name text:Bs} {n:Int} {sorted random keep:Bool} {ref:Rf} {e:Ast} {es:List Ast} {args:List Arg} {decl:Dcl} {opts:List (List Stm)} {body:List Stm} {rn ri rh en ei eh ek ea ves vas dv vo vb:Value}
  (h1:RfF P w ref rn ri rh) (h2:AstF P w e en ei eh ek ea) (h3:AstsV P w ves es) (h4:ArgsV P w vas args) (h5:DvsV P w dv decl.vars) (h6:∃ f,RowL P w 1 vo opts.length f∧OptsF P w opts f) (h7:∃ f,RowL P w 28 vb body.length f∧StmsF P w body f):
  StmF P w (.mk kind at_ name text n sorted random keep ref e es args decl opts body) [.int .i64 (kind:Int),.int .i64 (at_:Int),.string ⟨name.toArray⟩,.string ⟨text.toArray⟩,.int .i64 n,.bool sorted,.bool random,.bool keep,rn,ri,rh,.int .i64 (e.kind:Int),.int .i64 e.n,.string ⟨e.name.toArray⟩,.string ⟨e.label.toArray⟩,en,ei,eh,ek,ea,ves,vas,.int .i64 decl.type,.string ⟨decl.named.toArray⟩,dv,.int .i64 (decl.at_:Int),vo,vb]:=by
 rw [StmF]
 exact ⟨rn,ri,rh,en,ei,eh,ek,ea,ves,vas,dv,vo,vb,rfl,h1,h2,h3,h4,h5,h6,h7⟩
theorem RfF.zero {P:Nat→Prop} {w:World}:RfF P w .zero (.slice none 0 0) (.slice none 0 0) (.slice none 0 0):=⟨RowL.nil _ _ _,⟨[],RowL.nil _ _ _,by unfold Rf.zero;rw [AstsF]⟩,RowL.nil _ _ _⟩
theorem AstsV.nil {P:Nat→Prop} {w:World}:AstsV P w (.slice none 0 0) []:=⟨[],RowL.nil _ _ _,by rw [AstsF]⟩
theorem ArgsV.nil {P:Nat→Prop} {w:World}:ArgsV P w (.slice none 0 0) []:=⟨[],RowL.nil _ _ _,by rw [ArgsF]⟩
theorem DvsV.nil {P:Nat→Prop} {w:World}:DvsV P w (.slice none 0 0) []:=⟨[],RowL.nil _ _ _,rfl⟩
theorem opts_nil {P:Nat→Prop} {w:World}:∃ f,RowL P w 1 (.slice none 0 0) ([]:List (List Stm)).length f∧OptsF P w [] f:=⟨[],RowL.nil _ _ _,by rw [OptsF]⟩
theorem stms_nil {P:Nat→Prop} {w:World}:∃ f,RowL P w 28 (.slice none 0 0) ([]:List Stm).length f∧StmsF P w [] f:=⟨[],RowL.nil _ _ _,by rw [StmsF]⟩

set_option maxHeartbeats 4000000 in
set_option maxRecDepth 1000000 in
theorem simpleFn {E:Env} {f a0:Nat} {w:World} {p bs i:Nat} {vl:Value} (hP:Par w p vl E i) (hS:Holds w bs 57 [.int .i64 0,.int .i64 (a0:Int),.string ⟨#[]⟩,.string ⟨#[]⟩,.int .i64 0,.bool false,.bool false,.bool false,.slice none 0 0,.slice none 0 0,.slice none 0 0,.int .i64 0,.int .i64 0,.string ⟨#[]⟩,.string ⟨#[]⟩,.slice none 0 0,.slice none 0 0,.slice none 0 0,.slice none 0 0,.slice none 0 0,.slice none 0 0,.slice none 0 0,.int .i64 0,.string ⟨#[]⟩,.slice none 0 0,.int .i64 0,.slice none 0 0,.slice none 0 0]) (hbs:p < bs) (hne:simple E f a0 i ≠ .out):
  Calls Tryz.prog 172 #[.pointer (some ⟨p,0,none⟩),.pointer (some ⟨bs,0,none⟩)] w (SimPost p bs vl E w (simple E f a0 i)):=by
 have hp1:=hP.lt
 have hb1:=hS.lt
 have hfew:=hP.few
 have hi2:i ≤ 65536:=Nat.le_trans hP.le hfew
 have HLE:=Lib.hid hP.le
 obtain ⟨Rr,hRr⟩:∃ Rr,simple E f a0 i=Rr:=⟨_,rfl⟩
 rw [hRr] at hne ⊢
 have HNE:=Lib.hid hne
 have hmf:∀ (fn:Fn) (first cap:Array Value) (w:World),(Instr.makeFunc fn first cap).run Tryz.prog w=.ok (.func fn first cap) w:=fun _ _ _ _=>rfl
 unfold simple at hRr
 dsimp only at hRr
 have HPq:=Lib.hid hP
 have HFq:Hid (F2 p bs w w):=F2.rfl_
 have HSq:=Lib.hid hS
 obtain ⟨c0,c1,c2,f2⟩:=hP.cells
 clear hP hS hne
 go_enter Tryz.func172,Tryz.ntmps172
 have hI:=isFn HPq.out 1
 obtain ⟨q0,hq0⟩:∃ q,decide (kindAt E i=1)=q:=⟨_,rfl⟩
 rw [hq0] at hI
 have HI:=Lib.hid hI
 have HQ0:=Lib.hid hq0
 have HQ:=Lib.hid hRr
 clear hI hq0 hRr
 go_wp2_with (fail)
 refine (HI.out).mono ?_
 rintro e w2 ⟨rfl,hbq⟩
 have HPw2:=Lib.hid (HPq.out.belowAll hbq)
 have HFw2:=Lib.hid (HFq.out.bel hbq)
 have HSw2:=Lib.hid (HSq.out.belowAll hbq)
 clear HPq HFq HSq
 clear hbq HI c0 c1 c2 f2
 go_upto_if 10 with (fail)
 go_cut [4] (fun s4 wx=>s4=.int .i64 (i:Int)∧∃ (x1 x2 x3:Value) (j:Nat),Hid (((expr E f 0 i).bd fun e j=>R.ok (Stm.e1 2 a0 e) j)=Rr)∧Hid (Holds wx bs 57 [.int .i64 0,.int .i64 (a0:Int),.string ⟨#[]⟩,.string ⟨#[]⟩,.int .i64 0,.bool false,.bool false,.bool false,x1,x2,x3,.int .i64 0,.int .i64 0,.string ⟨#[]⟩,.string ⟨#[]⟩,.slice none 0 0,.slice none 0 0,.slice none 0 0,.slice none 0 0,.slice none 0 0,.slice none 0 0,.slice none 0 0,.int .i64 0,.string ⟨#[]⟩,.slice none 0 0,.int .i64 0,.slice none 0 0,.slice none 0 0])∧Hid (Par wx p vl E j)∧Hid (F2 p bs w wx))
 case first=>
  have hRr:=HQ.out
  have hk0:=HQ0.out
  clear HQ HQ0
  cases q0 with
  | true=>
   have hk:kindAt E i=1:=of_decide_eq_true hk0
   clear hk0
   rw [if_pos hk] at hRr
   have hszP:w.heap.size ≤ w2.heap.size:=HFw2.out.size
   have HC':=(exprOk E f).ref HPw2.out (fun h=>by rw [h] at hRr;exact HNE.out hRr.symm)
   have HCx:=Lib.hid HC'
   clear HC'
   have HQ:=Lib.hid hRr
   clear hRr
   go_wp2_with (fail)
   have hRr:=HQ.out
   clear HQ
   have HC':=HCx.out
   clear HCx
   cases h1:ref E f i with
   | out=>exact absurd h1 (fun h=>by rw [h] at hRr;exact HNE.out hRr.symm)
   | bad c a=>
    rw [h1] at HC' hRr
    refine HC'.mono ?_
    rintro e wz ⟨rfl,hF⟩
    rw [← (show _=_ from hRr)]
    exact ⟨rfl,rfl,HFw2.out.trans hF⟩
   | ok r j2=>
    rw [h1] at HC' hRr
    have HC:=Lib.hid HC'
    clear h1 HC' 
    try simp only [bd_ok] at hRr
    refine (HC.out).mono ?_
    rintro e w11 ⟨vw11,rfl,⟨vn,vi,vh,rfl,hv⟩,hPq,hFq⟩
    obtain ⟨ra1,rn1,rc1,ra2,rn2,rc2,ra3,rn3,rc3,rfl,rfl,rfl⟩:=RfF.forms hv
    have HP11:=Lib.hid hPq
    have HF11:=Lib.hid (HFw2.out.trans hFq)
    have HS11:=Lib.hid (HSw2.out.fp hFq (by omega))
    clear HPw2 HFw2 HSw2
    clear hPq hFq HC
    have HVr11:=Lib.hid (RfF.mono (Q:=From w.heap.size) (show RfF _ _ _ _ _ _ from hv) (fun k hk hs=>by have h:_ ≤ k:=hk;show _ ≤ k;omega))
    clear hv
    have HQ:=Lib.hid hRr
    clear hRr
    go_wp2_with (refine wpList_storeB rfl 38 _ _ rfl (bs) 8 [.slice ra1 rn1 rc1,.slice ra2 rn2 rc2,.slice ra3 rn3 rc3] rfl rfl HS11.out (Nat.le_of_ble_eq_true rfl) sz_Ref (by simp [Value.oneCell']) ?_)
    refine Named.mk (fun w12 hW12=>?_)
    have hRr:=HQ.out
    clear HQ 
    obtain ⟨L12,hL12⟩:∃ L:List Value,L=[.slice ra1 rn1 rc1,.slice ra2 rn2 rc2,.slice ra3 rn3 rc3]:=⟨_,rfl⟩
    rw [← hL12] at hW12
    have HP12:Hid (Par w12 p vl E (j2)):=by rw [hW12];exact Par.setR (by omega) L12 8 HP11.out
    have HF12:Hid (F2 p bs w w12):=by rw [hW12];exact F2.setR L12 8 HF11.out
    have hb12:=HS11.out.stored hW12 (by rw [hL12];exact Nat.le_of_ble_eq_true rfl)
    rw [hL12] at hb12
    have HS12:=Lib.hid hb12
    clear hb12
    have hb12:=HVr11.out.up (Keep.setR (b:=bs) (by show ¬ _;omega) L12 8)
    rw [← hW12] at hb12
    have HVr12:=Lib.hid hb12
    clear hb12
    clear hW12 hL12 HP11 HF11 HS11 HVr11
    have hszR:w.heap.size ≤ w12.heap.size:=HF12.out.size
    have hj2:j2 ≤ 65536:=Nat.le_trans HP12.out.le HP12.out.few
    have hL:=Holds.new w12 9 #[.string ⟨#[61]⟩]
    have HL:=Lib.hid hL
    clear hL
    have hba:Below w12.heap.size w12 (w12.alloc (.cells #[.string ⟨#[61]⟩] 9)):=(Below.refl _ _).alloc (Nat.le_refl _) _
    have HP13:=Lib.hid (HP12.out.belowAll hba)
    have HF13:=Lib.hid (HF12.out.bel hba)
    have HS13:=Lib.hid (HS12.out.belowAll hba)
    have HVr13:=Lib.hid (HVr12.out.up (Keep.below hba))
    clear HP12 HF12 HS12 HVr12
    clear hba
    cases hs:sees E j2 [[61]] with
    | true=>
     rw [if_pos hs] at hRr
     have HT:=Lib.hid (takes_yes HP13.out [[61]] HL.out (by simp) hs)
     clear hs HL
     have HQ:=Lib.hid hRr
     clear hRr
     go_wp2_with (fail)
     have hRr:=HQ.out
     clear HQ
     refine (HT.out).mono ?_
     rintro e w14 ⟨rfl,hPq,hFq⟩
     have HP14:=Lib.hid hPq
     have HF14:=Lib.hid (HF13.out.trans hFq)
     have HS14:=Lib.hid (HS13.out.fp hFq (by omega))
     have HVr14:=Lib.hid (HVr13.out.up (Keep.of_fp hFq (by show ¬ _;omega)))
     clear HP13 HF13 HS13 HVr13
     clear hPq hFq HT
     have hszQ:w.heap.size ≤ w14.heap.size:=HF14.out.size
     have HC':=(exprOk E f).expr (lvl:=0) HP14.out (by omega) (fun h=>by rw [h] at hRr;exact HNE.out hRr.symm)
     have HCx:=Lib.hid HC'
     clear HC'
     have HQ:=Lib.hid hRr
     clear hRr
     go_wp2_with (fail)
     have hRr:=HQ.out
     clear HQ
     have HC':=HCx.out
     clear HCx
     cases h1:expr E f 0 (j2 + 1) with
     | out=>exact absurd h1 (fun h=>by rw [h] at hRr;exact HNE.out hRr.symm)
     | bad c a=>
      rw [h1] at HC' hRr
      refine HC'.mono ?_
      rintro e wz ⟨rfl,hF⟩
      rw [← (show _=_ from hRr)]
      exact ⟨rfl,rfl,HF14.out.trans hF⟩
     | ok e j3=>
      rw [h1] at HC' hRr
      have HC:=Lib.hid HC'
      clear h1 HC' 
      try simp only [bd_ok] at hRr
      refine (HC.out).mono ?_
      rintro e w15 ⟨vw15,rfl,⟨vn,vi,vh,vk,va,rfl,hve⟩,hPq,hFq⟩
      obtain ⟨ea1,en1,ec1,ea2,en2,ec2,ea3,en3,ec3,ea4,en4,ec4,ea5,en5,ec5,rfl,rfl,rfl,rfl,rfl⟩:=hve.forms
      unfold Ast.val
      have HP15:=Lib.hid hPq
      have HF15:=Lib.hid (HF14.out.trans hFq)
      have HS15:=Lib.hid (HS14.out.fp hFq (by omega))
      have HVr15:=Lib.hid (HVr14.out.up (Keep.of_fp hFq (by show ¬ _;omega)))
      clear HP14 HF14 HS14 HVr14
      clear hPq hFq HC
      have HVe15:=Lib.hid hve
      clear hve
      have hv3:=HVe15.out.mono (Q:=From w.heap.size) (fun k hk hs=>by have h:_ ≤ k:=hk;show _ ≤ k;omega)
      clear HVe15
      have HVe15:=Lib.hid hv3
      clear hv3
      have HQ:=Lib.hid hRr
      clear hRr
      go_wp2_with (refine wpList_store1 rfl 3 _ _ rfl (bs) 0 (.int .i64 3) rfl rfl HS15.out (Nat.le_of_ble_eq_true rfl) sz_int rfl rfl ?_)
      refine Named.mk (fun w16 hW16=>?_)
      have hRr:=HQ.out
      clear HQ 
      obtain ⟨L16,hL16⟩:∃ L:List Value,L=[.int .i64 3]:=⟨_,rfl⟩
      rw [← hL16] at hW16
      have HP16:Hid (Par w16 p vl E (j3)):=by rw [hW16];exact Par.setR (by omega) L16 0 HP15.out
      have HF16:Hid (F2 p bs w w16):=by rw [hW16];exact F2.setR L16 0 HF15.out
      have hb16:=HS15.out.stored hW16 (by rw [hL16];exact Nat.le_of_ble_eq_true rfl)
      rw [hL16] at hb16
      have HS16:=Lib.hid hb16
      clear hb16
      have hb16:=HVr15.out.up (Keep.setR (b:=bs) (by show ¬ _;omega) L16 0)
      rw [← hW16] at hb16
      have HVr16:=Lib.hid hb16
      clear hb16
      have hb16:=HVe15.out.up (Keep.setR (b:=bs) (by show ¬ _;omega) L16 0)
      rw [← hW16] at hb16
      have HVe16:=Lib.hid hb16
      clear hb16
      clear hW16 hL16 HP15 HF15 HS15 HVr15 HVe15
      have HQ:=Lib.hid hRr
      clear hRr
      go_wp2_with (refine wpList_storeB rfl 41 _ _ rfl (bs) 11 [.int .i64 (e.kind:Int),.int .i64 e.n,.string ⟨e.name.toArray⟩,.string ⟨e.label.toArray⟩,.slice ea1 en1 ec1,.slice ea2 en2 ec2,.slice ea3 en3 ec3,.slice ea4 en4 ec4,.slice ea5 en5 ec5] rfl rfl HS16.out (Nat.le_of_ble_eq_true rfl) sz_Ast (by simp [Value.oneCell']) ?_)
      refine Named.mk (fun w17 hW17=>?_)
      have hRr:=HQ.out
      clear HQ 
      obtain ⟨L17,hL17⟩:∃ L:List Value,L=[.int .i64 (e.kind:Int),.int .i64 e.n,.string ⟨e.name.toArray⟩,.string ⟨e.label.toArray⟩,.slice ea1 en1 ec1,.slice ea2 en2 ec2,.slice ea3 en3 ec3,.slice ea4 en4 ec4,.slice ea5 en5 ec5]:=⟨_,rfl⟩
      rw [← hL17] at hW17
      have HP17:Hid (Par w17 p vl E (j3)):=by rw [hW17];exact Par.setR (by omega) L17 11 HP16.out
      have HF17:Hid (F2 p bs w w17):=by rw [hW17];exact F2.setR L17 11 HF16.out
      have hb17:=HS16.out.stored hW17 (by rw [hL17];exact Nat.le_of_ble_eq_true rfl)
      rw [hL17] at hb17
      have HS17:=Lib.hid hb17
      clear hb17
      have hb17:=HVr16.out.up (Keep.setR (b:=bs) (by show ¬ _;omega) L17 11)
      rw [← hW17] at hb17
      have HVr17:=Lib.hid hb17
      clear hb17
      have hb17:=HVe16.out.up (Keep.setR (b:=bs) (by show ¬ _;omega) L17 11)
      rw [← hW17] at hb17
      have HVe17:=Lib.hid hb17
      clear hb17
      clear hW17 hL17 HP16 HF16 HS16 HVr16 HVe16
      have HZ:=Lib.hid hRr
      clear hRr hmf
      go_wp2
      refine bodyPost_ret (v:=.tuple #[]) (by simp [results,Tryz.results172,go_sem]) rfl ?_
      rw [← HZ.out]
      exact ⟨rfl,_,rfl,HS17.out,StmF.of HVr17.out HVe17.out AstsV.nil ArgsV.nil DvsV.nil opts_nil stms_nil,HP17.out,HF17.out⟩
    | false=>
     rw [if_neg (by rw [hs];decide)] at hRr
     have HT:=Lib.hid (takes_no HP13.out [[61]] HL.out (by simp) hs)
     clear hs HL
     have HQ:=Lib.hid hRr
     clear hRr
     go_wp2_with (fail)
     have hRr:=HQ.out
     clear HQ
     refine (HT.out).mono ?_
     rintro e w14 ⟨rfl,hbq⟩
     have HP14:=Lib.hid (HP13.out.belowAll hbq)
     have HF14:=Lib.hid (HF13.out.bel hbq)
     have HS14:=Lib.hid (HS13.out.belowAll hbq)
     have HVr14:=Lib.hid (HVr13.out.up (Keep.below hbq))
     clear HP13 HF13 HS13 HVr13
     clear hbq HT
     have hL:=Holds.new w14 9 #[.string ⟨#[43,43]⟩]
     have HL:=Lib.hid hL
     clear hL
     have hba:Below w14.heap.size w14 (w14.alloc (.cells #[.string ⟨#[43,43]⟩] 9)):=(Below.refl _ _).alloc (Nat.le_refl _) _
     have HP18:=Lib.hid (HP14.out.belowAll hba)
     have HF18:=Lib.hid (HF14.out.bel hba)
     have HS18:=Lib.hid (HS14.out.belowAll hba)
     have HVr18:=Lib.hid (HVr14.out.up (Keep.below hba))
     clear HP14 HF14 HS14 HVr14
     clear hba
     cases hs:sees E j2 [[43,43]] with
     | true=>
      rw [if_pos hs] at hRr
      have HT:=Lib.hid (takes_yes HP18.out [[43,43]] HL.out (by simp) hs)
      clear hs HL
      have HQ:=Lib.hid hRr
      clear hRr
      go_wp2_with (fail)
      have hRr:=HQ.out
      clear HQ
      refine (HT.out).mono ?_
      rintro e w19 ⟨rfl,hPq,hFq⟩
      have HP19:=Lib.hid hPq
      have HF19:=Lib.hid (HF18.out.trans hFq)
      have HS19:=Lib.hid (HS18.out.fp hFq (by omega))
      have HVr19:=Lib.hid (HVr18.out.up (Keep.of_fp hFq (by show ¬ _;omega)))
      clear HP18 HF18 HS18 HVr18
      clear hPq hFq HT
      have HQ:=Lib.hid hRr
      clear hRr
      go_wp2_with (refine wpList_store1 rfl 3 _ _ rfl (bs) 0 (.int .i64 4) rfl rfl HS19.out (Nat.le_of_ble_eq_true rfl) sz_int rfl rfl ?_)
      refine Named.mk (fun w20 hW20=>?_)
      have hRr:=HQ.out
      clear HQ 
      obtain ⟨L20,hL20⟩:∃ L:List Value,L=[.int .i64 4]:=⟨_,rfl⟩
      rw [← hL20] at hW20
      have HP20:Hid (Par w20 p vl E (j2 + 1)):=by rw [hW20];exact Par.setR (by omega) L20 0 HP19.out
      have HF20:Hid (F2 p bs w w20):=by rw [hW20];exact F2.setR L20 0 HF19.out
      have hb20:=HS19.out.stored hW20 (by rw [hL20];exact Nat.le_of_ble_eq_true rfl)
      rw [hL20] at hb20
      have HS20:=Lib.hid hb20
      clear hb20
      have hb20:=HVr19.out.up (Keep.setR (b:=bs) (by show ¬ _;omega) L20 0)
      rw [← hW20] at hb20
      have HVr20:=Lib.hid hb20
      clear hb20
      clear hW20 hL20 HP19 HF19 HS19 HVr19
      have HQ:=Lib.hid hRr
      clear hRr
      go_wp2_with (refine wpList_store1 rfl 3 _ _ rfl (bs) 4 (.int .i64 1) rfl rfl HS20.out (Nat.le_of_ble_eq_true rfl) sz_int rfl rfl ?_)
      refine Named.mk (fun w21 hW21=>?_)
      have hRr:=HQ.out
      clear HQ 
      obtain ⟨L21,hL21⟩:∃ L:List Value,L=[.int .i64 1]:=⟨_,rfl⟩
      rw [← hL21] at hW21
      have HP21:Hid (Par w21 p vl E (j2 + 1)):=by rw [hW21];exact Par.setR (by omega) L21 4 HP20.out
      have HF21:Hid (F2 p bs w w21):=by rw [hW21];exact F2.setR L21 4 HF20.out
      have hb21:=HS20.out.stored hW21 (by rw [hL21];exact Nat.le_of_ble_eq_true rfl)
      rw [hL21] at hb21
      have HS21:=Lib.hid hb21
      clear hb21
      have hb21:=HVr20.out.up (Keep.setR (b:=bs) (by show ¬ _;omega) L21 4)
      rw [← hW21] at hb21
      have HVr21:=Lib.hid hb21
      clear hb21
      clear hW21 hL21 HP20 HF20 HS20 HVr20
      have HZ:=Lib.hid hRr
      clear hRr hmf
      go_wp2
      refine bodyPost_ret (v:=.tuple #[]) (by simp [results,Tryz.results172,go_sem]) rfl ?_
      rw [← HZ.out]
      exact ⟨rfl,_,rfl,HS21.out,StmF.of HVr21.out AstF.zero AstsV.nil ArgsV.nil DvsV.nil opts_nil stms_nil,HP21.out,HF21.out⟩
     | false=>
      rw [if_neg (by rw [hs];decide)] at hRr
      have HT:=Lib.hid (takes_no HP18.out [[43,43]] HL.out (by simp) hs)
      clear hs HL
      have HQ:=Lib.hid hRr
      clear hRr
      go_wp2_with (fail)
      have hRr:=HQ.out
      clear HQ
      refine (HT.out).mono ?_
      rintro e w19 ⟨rfl,hbq⟩
      have HP19:=Lib.hid (HP18.out.belowAll hbq)
      have HF19:=Lib.hid (HF18.out.bel hbq)
      have HS19:=Lib.hid (HS18.out.belowAll hbq)
      have HVr19:=Lib.hid (HVr18.out.up (Keep.below hbq))
      clear HP18 HF18 HS18 HVr18
      clear hbq HT
      have hL:=Holds.new w19 9 #[.string ⟨#[45,45]⟩]
      have HL:=Lib.hid hL
      clear hL
      have hba:Below w19.heap.size w19 (w19.alloc (.cells #[.string ⟨#[45,45]⟩] 9)):=(Below.refl _ _).alloc (Nat.le_refl _) _
      have HP22:=Lib.hid (HP19.out.belowAll hba)
      have HF22:=Lib.hid (HF19.out.bel hba)
      have HS22:=Lib.hid (HS19.out.belowAll hba)
      have HVr22:=Lib.hid (HVr19.out.up (Keep.below hba))
      clear HP19 HF19 HS19 HVr19
      clear hba
      cases hs:sees E j2 [[45,45]] with
      | true=>
       rw [if_pos hs] at hRr
       have HT:=Lib.hid (takes_yes HP22.out [[45,45]] HL.out (by simp) hs)
       clear hs HL
       have HQ:=Lib.hid hRr
       clear hRr
       go_wp2_with (fail)
       have hRr:=HQ.out
       clear HQ
       refine (HT.out).mono ?_
       rintro e w23 ⟨rfl,hPq,hFq⟩
       have HP23:=Lib.hid hPq
       have HF23:=Lib.hid (HF22.out.trans hFq)
       have HS23:=Lib.hid (HS22.out.fp hFq (by omega))
       have HVr23:=Lib.hid (HVr22.out.up (Keep.of_fp hFq (by show ¬ _;omega)))
       clear HP22 HF22 HS22 HVr22
       clear hPq hFq HT
       have HQ:=Lib.hid hRr
       clear hRr
       go_wp2_with (refine wpList_store1 rfl 3 _ _ rfl (bs) 0 (.int .i64 4) rfl rfl HS23.out (Nat.le_of_ble_eq_true rfl) sz_int rfl rfl ?_)
       refine Named.mk (fun w24 hW24=>?_)
       have hRr:=HQ.out
       clear HQ 
       obtain ⟨L24,hL24⟩:∃ L:List Value,L=[.int .i64 4]:=⟨_,rfl⟩
       rw [← hL24] at hW24
       have HP24:Hid (Par w24 p vl E (j2 + 1)):=by rw [hW24];exact Par.setR (by omega) L24 0 HP23.out
       have HF24:Hid (F2 p bs w w24):=by rw [hW24];exact F2.setR L24 0 HF23.out
       have hb24:=HS23.out.stored hW24 (by rw [hL24];exact Nat.le_of_ble_eq_true rfl)
       rw [hL24] at hb24
       have HS24:=Lib.hid hb24
       clear hb24
       have hb24:=HVr23.out.up (Keep.setR (b:=bs) (by show ¬ _;omega) L24 0)
       rw [← hW24] at hb24
       have HVr24:=Lib.hid hb24
       clear hb24
       clear hW24 hL24 HP23 HF23 HS23 HVr23
       have HQ:=Lib.hid hRr
       clear hRr
       go_wp2_with (refine wpList_store1 rfl 3 _ _ rfl (bs) 4 (.int .i64 (-1)) rfl rfl HS24.out (Nat.le_of_ble_eq_true rfl) sz_int rfl rfl ?_)
       refine Named.mk (fun w25 hW25=>?_)
       have hRr:=HQ.out
       clear HQ 
       obtain ⟨L25,hL25⟩:∃ L:List Value,L=[.int .i64 (-1)]:=⟨_,rfl⟩
       rw [← hL25] at hW25
       have HP25:Hid (Par w25 p vl E (j2 + 1)):=by rw [hW25];exact Par.setR (by omega) L25 4 HP24.out
       have HF25:Hid (F2 p bs w w25):=by rw [hW25];exact F2.setR L25 4 HF24.out
       have hb25:=HS24.out.stored hW25 (by rw [hL25];exact Nat.le_of_ble_eq_true rfl)
       rw [hL25] at hb25
       have HS25:=Lib.hid hb25
       clear hb25
       have hb25:=HVr24.out.up (Keep.setR (b:=bs) (by show ¬ _;omega) L25 4)
       rw [← hW25] at hb25
       have HVr25:=Lib.hid hb25
       clear hb25
       clear hW25 hL25 HP24 HF24 HS24 HVr24
       have HZ:=Lib.hid hRr
       clear hRr hmf
       go_wp2
       refine bodyPost_ret (v:=.tuple #[]) (by simp [results,Tryz.results172,go_sem]) rfl ?_
       rw [← HZ.out]
       exact ⟨rfl,_,rfl,HS25.out,StmF.of HVr25.out AstF.zero AstsV.nil ArgsV.nil DvsV.nil opts_nil stms_nil,HP25.out,HF25.out⟩
      | false=>
       rw [if_neg (by rw [hs];decide)] at hRr
       have HT:=Lib.hid (takes_no HP22.out [[45,45]] HL.out (by simp) hs)
       clear hs HL
       have HQ:=Lib.hid hRr
       clear hRr
       go_wp2_with (fail)
       have hRr:=HQ.out
       clear HQ
       refine (HT.out).mono ?_
       rintro e w23 ⟨rfl,hbq⟩
       have HP23:=Lib.hid (HP22.out.belowAll hbq)
       have HF23:=Lib.hid (HF22.out.bel hbq)
       have HS23:=Lib.hid (HS22.out.belowAll hbq)
       have HVr23:=Lib.hid (HVr22.out.up (Keep.below hbq))
       clear HP22 HF22 HS22 HVr22
       clear hbq HT
       have hL:=Holds.new w23 9 #[.string ⟨#[33]⟩,.string ⟨#[33,33]⟩]
       have HL:=Lib.hid hL
       clear hL
       have hba:Below w23.heap.size w23 (w23.alloc (.cells #[.string ⟨#[33]⟩,.string ⟨#[33,33]⟩] 9)):=(Below.refl _ _).alloc (Nat.le_refl _) _
       have HP26:=Lib.hid (HP23.out.belowAll hba)
       have HF26:=Lib.hid (HF23.out.bel hba)
       have HS26:=Lib.hid (HS23.out.belowAll hba)
       have HVr26:=Lib.hid (HVr23.out.up (Keep.below hba))
       clear HP23 HF23 HS23 HVr23
       clear hba
       cases hs:sees E j2 [[33],[33,33]] with
       | true=>
        rw [if_pos hs] at hRr
        have hsx:=hs
        have hT:=sees0 HP26.out [[33],[33,33]] HL.out (by simp)
        rw [hs] at hT
        have HT:=Lib.hid hT
        clear hT HL
        have HQ:=Lib.hid hRr
        clear hRr
        go_wp2_with (fail)
        have hRr:=HQ.out
        clear HQ
        refine (HT.out).mono ?_
        rintro e w27 ⟨rfl,hbq⟩
        have HP27:=Lib.hid (HP26.out.belowAll hbq)
        have HF27:=Lib.hid (HF26.out.bel hbq)
        have HS27:=Lib.hid (HS26.out.belowAll hbq)
        have HVr27:=Lib.hid (HVr26.out.up (Keep.below hbq))
        clear HP26 HF26 HS26 HVr26
        clear hbq HT
        have HSS:=Lib.hid hsx
        clear hsx
        have hL:=Holds.new w27 9 #[.string ⟨#[33,33]⟩]
        have HL:=Lib.hid hL
        clear hL
        have hba:Below w27.heap.size w27 (w27.alloc (.cells #[.string ⟨#[33,33]⟩] 9)):=(Below.refl _ _).alloc (Nat.le_refl _) _
        have HP28:=Lib.hid (HP27.out.belowAll hba)
        have HF28:=Lib.hid (HF27.out.bel hba)
        have HS28:=Lib.hid (HS27.out.belowAll hba)
        have HVr28:=Lib.hid (HVr27.out.up (Keep.below hba))
        clear HP27 HF27 HS27 HVr27
        clear hba
        obtain ⟨q1,hq1⟩:∃ b:Bool,sees E j2 [[33,33]]=b:=⟨_,rfl⟩
        have hT:=sees0 HP28.out [[33,33]] HL.out (by simp)
        rw [hq1] at hT
        have Hq1:=Lib.hid hq1
        have HT:=Lib.hid hT
        clear hT HL hq1
        have HQ:=Lib.hid hRr
        clear hRr
        go_wp2_with (fail)
        have hRr:=HQ.out
        clear HQ
        refine (HT.out).mono ?_
        rintro e w29 ⟨rfl,hbq⟩
        have HP29:=Lib.hid (HP28.out.belowAll hbq)
        have HF29:=Lib.hid (HF28.out.bel hbq)
        have HS29:=Lib.hid (HS28.out.belowAll hbq)
        have HVr29:=Lib.hid (HVr28.out.up (Keep.below hbq))
        clear HP28 HF28 HS28 HVr28
        clear hbq HT
        have HLT:=Lib.hid (sees_lt HSS.out)
        rw [Hq1.out] at hRr
        have HQ:=Lib.hid hRr
        clear hRr
        go_wp2_with (refine wpList_store1 rfl 3 _ _ rfl (bs) 0 (.int .i64 5) rfl rfl HS29.out (Nat.le_of_ble_eq_true rfl) sz_int rfl rfl ?_)
        refine Named.mk (fun w30 hW30=>?_)
        have hRr:=HQ.out
        clear HQ 
        obtain ⟨L30,hL30⟩:∃ L:List Value,L=[.int .i64 5]:=⟨_,rfl⟩
        rw [← hL30] at hW30
        have HP30:Hid (Par w30 p vl E (j2)):=by rw [hW30];exact Par.setR (by omega) L30 0 HP29.out
        have HF30:Hid (F2 p bs w w30):=by rw [hW30];exact F2.setR L30 0 HF29.out
        have hb30:=HS29.out.stored hW30 (by rw [hL30];exact Nat.le_of_ble_eq_true rfl)
        rw [hL30] at hb30
        have HS30:=Lib.hid hb30
        clear hb30
        have hb30:=HVr29.out.up (Keep.setR (b:=bs) (by show ¬ _;omega) L30 0)
        rw [← hW30] at hb30
        have HVr30:=Lib.hid hb30
        clear hb30
        clear hW30 hL30 HP29 HF29 HS29 HVr29
        have HQ:=Lib.hid hRr
        clear hRr
        go_wp2_with (refine wpList_store1 rfl 4 _ _ rfl (bs) 5 (.bool q1) rfl rfl HS30.out (Nat.le_of_ble_eq_true rfl) sz_bool rfl rfl ?_)
        refine Named.mk (fun w31 hW31=>?_)
        have hRr:=HQ.out
        clear HQ 
        obtain ⟨L31,hL31⟩:∃ L:List Value,L=[.bool q1]:=⟨_,rfl⟩
        rw [← hL31] at hW31
        have HP31:Hid (Par w31 p vl E (j2)):=by rw [hW31];exact Par.setR (by omega) L31 5 HP30.out
        have HF31:Hid (F2 p bs w w31):=by rw [hW31];exact F2.setR L31 5 HF30.out
        have hb31:=HS30.out.stored hW31 (by rw [hL31];exact Nat.le_of_ble_eq_true rfl)
        rw [hL31] at hb31
        have HS31:=Lib.hid hb31
        clear hb31
        have hb31:=HVr30.out.up (Keep.setR (b:=bs) (by show ¬ _;omega) L31 5)
        rw [← hW31] at hb31
        have HVr31:=Lib.hid hb31
        clear hb31
        clear hW31 hL31 HP30 HF30 HS30 HVr30
        obtain ⟨c0,c1,c2,f2⟩:=HP31.out.cells
        have HQ:=Lib.hid hRr
        clear hRr
        go_wp2_with (refine wpList_store1 rfl 3 _ _ rfl p 2 (.int .i64 ((j2:Int) + 1)) rfl rfl HP31.out.at_ (by simp) sz_int rfl rfl ?_)
        refine Named.mk (fun w32 hW32=>?_)
        have hRr:=HQ.out
        clear HQ c0 c1 c2 f2 
        have hPy:Par (setR w31 p 2 [(.int .i64 ((j2:Int) + 1))]) p vl E (j2 + 1):=HP31.out.set (j:=j2 + 1) HLT.out
        have hFy:F2 p bs w (setR w31 p 2 [(.int .i64 ((j2:Int) + 1))]):=HF31.out.setp 2 (.int .i64 ((j2:Int) + 1))
        have hyS:=Holds.farR (b':=p) (by omega) [(.int .i64 ((j2:Int) + 1))] 2 HS31.out
        have hyVr:=HVr31.out.up (Keep.setR (b:=p) (by show ¬ _;omega) [(.int .i64 ((j2:Int) + 1))] 2)
        rw [← hW32] at hPy hFy hyS hyVr
        have HP32:=Lib.hid hPy
        have HF32:=Lib.hid hFy
        have HS32:=Lib.hid hyS
        have HVr32:=Lib.hid hyVr
        clear hW32 hPy hFy hyS hyVr HP31 HF31 HS31 HVr31
        have hszQ:w.heap.size ≤ w32.heap.size:=HF32.out.size
        have HC':=messageAstFn f (fun k=>expr E f 0 k) _ _ _ HP32.out (oneFull (exprOk E f)) (fun i a k h=>Nat.le_of_lt ((advE E f).expr h)) (fun h=>by rw [h] at hRr;exact HNE.out hRr.symm)
        have HCx:=Lib.hid HC'
        clear HC'
        have HQ:=Lib.hid hRr
        clear hRr
        go_wp2_with (fail)
        have hRr:=HQ.out
        clear HQ
        have HC':=HCx.out
        clear HCx
        cases h1:message E (expr E f 0) f (j2 + 1) with
        | out=>exact absurd h1 (fun h=>by rw [h] at hRr;exact HNE.out hRr.symm)
        | bad c a=>
         rw [h1] at HC' hRr
         refine HC'.mono ?_
         rintro e wz ⟨rfl,hF⟩
         rw [← (show _=_ from hRr)]
         exact ⟨rfl,rfl,HF32.out.trans hF⟩
        | ok l j5=>
         rw [h1] at HC' hRr
         have HC:=Lib.hid HC'
         clear h1 HC' 
         try simp only [bd_ok] at hRr
         refine (HC.out).mono ?_
         rintro e w33 ⟨vw33,rfl,hv,hPq,hFq⟩
         have HP33:=Lib.hid hPq
         have HF33:=Lib.hid (HF32.out.trans hFq)
         have HS33:=Lib.hid (HS32.out.fp hFq (by omega))
         have HVr33:=Lib.hid (HVr32.out.up (Keep.of_fp hFq (by show ¬ _;omega)))
         clear HP32 HF32 HS32 HVr32
         clear hPq hFq HC
         obtain ⟨ff,hr,hf⟩:=hv
         obtain ⟨za,zc,hvf,_⟩:=hr.form
         subst hvf
         have HVm33:=Lib.hid (AstsV.mono (Q:=From w.heap.size) (show AstsV _ _ _ _ from ⟨ff,hr,hf⟩) (fun k hk hs=>by have h:_ ≤ k:=hk;show _ ≤ k;omega))
         clear hr hf
         have HQ:=Lib.hid hRr
         clear hRr
         go_wp2_with (refine wpList_store1 rfl 35 _ _ rfl (bs) 20 (.slice za l.length zc) rfl rfl HS33.out (Nat.le_of_ble_eq_true rfl) sz_Asts rfl rfl ?_)
         refine Named.mk (fun w34 hW34=>?_)
         have hRr:=HQ.out
         clear HQ 
         obtain ⟨L34,hL34⟩:∃ L:List Value,L=[.slice za l.length zc]:=⟨_,rfl⟩
         rw [← hL34] at hW34
         have HP34:Hid (Par w34 p vl E (j5)):=by rw [hW34];exact Par.setR (by omega) L34 20 HP33.out
         have HF34:Hid (F2 p bs w w34):=by rw [hW34];exact F2.setR L34 20 HF33.out
         have hb34:=HS33.out.stored hW34 (by rw [hL34];exact Nat.le_of_ble_eq_true rfl)
         rw [hL34] at hb34
         have HS34:=Lib.hid hb34
         clear hb34
         have hb34:=HVr33.out.up (Keep.setR (b:=bs) (by show ¬ _;omega) L34 20)
         rw [← hW34] at hb34
         have HVr34:=Lib.hid hb34
         clear hb34
         have hb34:=HVm33.out.up (Keep.setR (b:=bs) (by show ¬ _;omega) L34 20)
         rw [← hW34] at hb34
         have HVm34:=Lib.hid hb34
         clear hb34
         clear hW34 hL34 HP33 HF33 HS33 HVr33 HVm33
         have HZ:=Lib.hid hRr
         clear hRr hmf
         go_wp2
         refine bodyPost_ret (v:=.tuple #[]) (by simp [results,Tryz.results172,go_sem]) rfl ?_
         rw [← HZ.out]
         exact ⟨rfl,_,rfl,HS34.out,StmF.of HVr34.out AstF.zero HVm34.out ArgsV.nil DvsV.nil opts_nil stms_nil,HP34.out,HF34.out⟩
       | false=>
        rw [if_neg (by rw [hs];decide)] at hRr
        have hT:=sees0 HP26.out [[33],[33,33]] HL.out (by simp)
        rw [hs] at hT
        have HT:=Lib.hid hT
        clear hT HL
        have HQ:=Lib.hid hRr
        clear hRr
        go_wp2_with (fail)
        have hRr:=HQ.out
        clear HQ
        refine (HT.out).mono ?_
        rintro e w27 ⟨rfl,hbq⟩
        have HP27:=Lib.hid (HP26.out.belowAll hbq)
        have HF27:=Lib.hid (HF26.out.bel hbq)
        have HS27:=Lib.hid (HS26.out.belowAll hbq)
        have HVr27:=Lib.hid (HVr26.out.up (Keep.below hbq))
        clear HP26 HF26 HS26 HVr26
        clear hbq HT
        have hL:=Holds.new w27 9 #[.string ⟨#[63]⟩,.string ⟨#[63,63]⟩]
        have HL:=Lib.hid hL
        clear hL
        have hba:Below w27.heap.size w27 (w27.alloc (.cells #[.string ⟨#[63]⟩,.string ⟨#[63,63]⟩] 9)):=(Below.refl _ _).alloc (Nat.le_refl _) _
        have HP35:=Lib.hid (HP27.out.belowAll hba)
        have HF35:=Lib.hid (HF27.out.bel hba)
        have HS35:=Lib.hid (HS27.out.belowAll hba)
        have HVr35:=Lib.hid (HVr27.out.up (Keep.below hba))
        clear HP27 HF27 HS27 HVr27
        clear hba
        cases hs:sees E j2 [[63],[63,63]] with
        | true=>
         have hsx:=hs
         have hT:=sees0 HP35.out [[63],[63,63]] HL.out (by simp)
         rw [hs] at hT
         have HT:=Lib.hid hT
         clear hT HL
         have HQ:=Lib.hid hRr
         clear hRr
         go_wp2_with (fail)
         have hRr:=HQ.out
         clear HQ
         refine (HT.out).mono ?_
         rintro e w36 ⟨rfl,hbq⟩
         have HP36:=Lib.hid (HP35.out.belowAll hbq)
         have HF36:=Lib.hid (HF35.out.bel hbq)
         have HS36:=Lib.hid (HS35.out.belowAll hbq)
         have HVr36:=Lib.hid (HVr35.out.up (Keep.below hbq))
         clear HP35 HF35 HS35 HVr35
         clear hbq HT
         have HSS:=Lib.hid hsx
         clear hsx
         have hL:=Holds.new w36 9 #[.string ⟨#[91]⟩]
         have HL:=Lib.hid hL
         clear hL
         have hba:Below w36.heap.size w36 (w36.alloc (.cells #[.string ⟨#[91]⟩] 9)):=(Below.refl _ _).alloc (Nat.le_refl _) _
         have HP37:=Lib.hid (HP36.out.belowAll hba)
         have HF37:=Lib.hid (HF36.out.bel hba)
         have HS37:=Lib.hid (HS36.out.belowAll hba)
         have HVr37:=Lib.hid (HVr36.out.up (Keep.below hba))
         clear HP36 HF36 HS36 HVr36
         clear hba
         cases hs:sees E (j2 + 1) [[91]] with
         | true=>
          have hs0:=hs
          have hT:=sees1 HP37.out [[91]] HL.out (by simp)
          rw [hs] at hT
          have HT:=Lib.hid hT
          clear hT HL
          have HQ:=Lib.hid hRr
          clear hRr
          go_wp2_with (fail)
          have hRr:=HQ.out
          clear HQ
          refine (HT.out).mono ?_
          rintro e w38 ⟨rfl,hbq⟩
          have HP38:=Lib.hid (HP37.out.belowAll hbq)
          have HF38:=Lib.hid (HF37.out.bel hbq)
          have HS38:=Lib.hid (HS37.out.belowAll hbq)
          have HVr38:=Lib.hid (HVr37.out.up (Keep.below hbq))
          clear HP37 HF37 HS37 HVr37
          clear hbq HT
          rw [if_neg (by rw [HSS.out,hs];decide)] at hRr
          clear hs
          have HZ:=Lib.hid hRr
          clear hRr
          go_wp2_with (fail)
          go_meet
          case rel=>exact ⟨rfl,_,_,_,_,HZ.out,HS38,HP38,HF38⟩
         | false=>
          have hs0:=hs
          have hT:=sees1 HP37.out [[91]] HL.out (by simp)
          rw [hs] at hT
          have HT:=Lib.hid hT
          clear hT HL
          have HQ:=Lib.hid hRr
          clear hRr
          go_wp2_with (fail)
          have hRr:=HQ.out
          clear HQ
          refine (HT.out).mono ?_
          rintro e w38 ⟨rfl,hbq⟩
          have HP38:=Lib.hid (HP37.out.belowAll hbq)
          have HF38:=Lib.hid (HF37.out.bel hbq)
          have HS38:=Lib.hid (HS37.out.belowAll hbq)
          have HVr38:=Lib.hid (HVr37.out.up (Keep.below hbq))
          clear HP37 HF37 HS37 HVr37
          clear hbq HT
          rw [if_pos (by rw [HSS.out,hs];rfl)] at hRr
          clear hs
          have hL:=Holds.new w38 9 #[.string ⟨#[63,63]⟩]
          have HL:=Lib.hid hL
          clear hL
          have hba:Below w38.heap.size w38 (w38.alloc (.cells #[.string ⟨#[63,63]⟩] 9)):=(Below.refl _ _).alloc (Nat.le_refl _) _
          have HP39:=Lib.hid (HP38.out.belowAll hba)
          have HF39:=Lib.hid (HF38.out.bel hba)
          have HS39:=Lib.hid (HS38.out.belowAll hba)
          have HVr39:=Lib.hid (HVr38.out.up (Keep.below hba))
          clear HP38 HF38 HS38 HVr38
          clear hba
          obtain ⟨q1,hq1⟩:∃ b:Bool,sees E j2 [[63,63]]=b:=⟨_,rfl⟩
          have hT:=sees0 HP39.out [[63,63]] HL.out (by simp)
          rw [hq1] at hT
          have Hq1:=Lib.hid hq1
          have HT:=Lib.hid hT
          clear hT HL hq1
          have HQ:=Lib.hid hRr
          clear hRr
          go_wp2_with (fail)
          have hRr:=HQ.out
          clear HQ
          refine (HT.out).mono ?_
          rintro e w40 ⟨rfl,hbq⟩
          have HP40:=Lib.hid (HP39.out.belowAll hbq)
          have HF40:=Lib.hid (HF39.out.bel hbq)
          have HS40:=Lib.hid (HS39.out.belowAll hbq)
          have HVr40:=Lib.hid (HVr39.out.up (Keep.below hbq))
          clear HP39 HF39 HS39 HVr39
          clear hbq HT
          have HLT:=Lib.hid (sees_lt HSS.out)
          rw [Hq1.out] at hRr
          have HQ:=Lib.hid hRr
          clear hRr
          go_wp2_with (refine wpList_store1 rfl 3 _ _ rfl (bs) 0 (.int .i64 6) rfl rfl HS40.out (Nat.le_of_ble_eq_true rfl) sz_int rfl rfl ?_)
          refine Named.mk (fun w41 hW41=>?_)
          have hRr:=HQ.out
          clear HQ 
          obtain ⟨L41,hL41⟩:∃ L:List Value,L=[.int .i64 6]:=⟨_,rfl⟩
          rw [← hL41] at hW41
          have HP41:Hid (Par w41 p vl E (j2)):=by rw [hW41];exact Par.setR (by omega) L41 0 HP40.out
          have HF41:Hid (F2 p bs w w41):=by rw [hW41];exact F2.setR L41 0 HF40.out
          have hb41:=HS40.out.stored hW41 (by rw [hL41];exact Nat.le_of_ble_eq_true rfl)
          rw [hL41] at hb41
          have HS41:=Lib.hid hb41
          clear hb41
          have hb41:=HVr40.out.up (Keep.setR (b:=bs) (by show ¬ _;omega) L41 0)
          rw [← hW41] at hb41
          have HVr41:=Lib.hid hb41
          clear hb41
          clear hW41 hL41 HP40 HF40 HS40 HVr40
          have HQ:=Lib.hid hRr
          clear hRr
          go_wp2_with (refine wpList_store1 rfl 4 _ _ rfl (bs) 6 (.bool q1) rfl rfl HS41.out (Nat.le_of_ble_eq_true rfl) sz_bool rfl rfl ?_)
          refine Named.mk (fun w42 hW42=>?_)
          have hRr:=HQ.out
          clear HQ 
          obtain ⟨L42,hL42⟩:∃ L:List Value,L=[.bool q1]:=⟨_,rfl⟩
          rw [← hL42] at hW42
          have HP42:Hid (Par w42 p vl E (j2)):=by rw [hW42];exact Par.setR (by omega) L42 6 HP41.out
          have HF42:Hid (F2 p bs w w42):=by rw [hW42];exact F2.setR L42 6 HF41.out
          have hb42:=HS41.out.stored hW42 (by rw [hL42];exact Nat.le_of_ble_eq_true rfl)
          rw [hL42] at hb42
          have HS42:=Lib.hid hb42
          clear hb42
          have hb42:=HVr41.out.up (Keep.setR (b:=bs) (by show ¬ _;omega) L42 6)
          rw [← hW42] at hb42
          have HVr42:=Lib.hid hb42
          clear hb42
          clear hW42 hL42 HP41 HF41 HS41 HVr41
          obtain ⟨c0,c1,c2,f2⟩:=HP42.out.cells
          have HQ:=Lib.hid hRr
          clear hRr
          go_wp2_with (refine wpList_store1 rfl 3 _ _ rfl p 2 (.int .i64 ((j2:Int) + 1)) rfl rfl HP42.out.at_ (by simp) sz_int rfl rfl ?_)
          refine Named.mk (fun w43 hW43=>?_)
          have hRr:=HQ.out
          clear HQ c0 c1 c2 f2 
          have hPy:Par (setR w42 p 2 [(.int .i64 ((j2:Int) + 1))]) p vl E (j2 + 1):=HP42.out.set (j:=j2 + 1) HLT.out
          have hFy:F2 p bs w (setR w42 p 2 [(.int .i64 ((j2:Int) + 1))]):=HF42.out.setp 2 (.int .i64 ((j2:Int) + 1))
          have hyS:=Holds.farR (b':=p) (by omega) [(.int .i64 ((j2:Int) + 1))] 2 HS42.out
          have hyVr:=HVr42.out.up (Keep.setR (b:=p) (by show ¬ _;omega) [(.int .i64 ((j2:Int) + 1))] 2)
          rw [← hW43] at hPy hFy hyS hyVr
          have HP43:=Lib.hid hPy
          have HF43:=Lib.hid hFy
          have HS43:=Lib.hid hyS
          have HVr43:=Lib.hid hyVr
          clear hW43 hPy hFy hyS hyVr HP42 HF42 HS42 HVr42
          have hL:=Holds.new w43 9 #[.string ⟨#[60]⟩]
          have HL:=Lib.hid hL
          clear hL
          have hba:Below w43.heap.size w43 (w43.alloc (.cells #[.string ⟨#[60]⟩] 9)):=(Below.refl _ _).alloc (Nat.le_refl _) _
          have HP44:=Lib.hid (HP43.out.belowAll hba)
          have HF44:=Lib.hid (HF43.out.bel hba)
          have HS44:=Lib.hid (HS43.out.belowAll hba)
          have HVr44:=Lib.hid (HVr43.out.up (Keep.below hba))
          clear HP43 HF43 HS43 HVr43
          clear hba
          cases hs:sees E (j2 + 1) [[60]] with
          | true=>
           rw [if_pos hs] at hRr
           have HT:=Lib.hid (takes_yes HP44.out [[60]] HL.out (by simp) hs)
           clear hs HL
           have HQ:=Lib.hid hRr
           clear hRr
           go_wp2_with (fail)
           have hRr:=HQ.out
           clear HQ
           refine (HT.out).mono ?_
           rintro e w45 ⟨rfl,hPq,hFq⟩
           have HP45:=Lib.hid hPq
           have HF45:=Lib.hid (HF44.out.trans hFq)
           have HS45:=Lib.hid (HS44.out.fp hFq (by omega))
           have HVr45:=Lib.hid (HVr44.out.up (Keep.of_fp hFq (by show ¬ _;omega)))
           clear HP44 HF44 HS44 HVr44
           clear hPq hFq HT
           have HQ:=Lib.hid hRr
           clear hRr
           go_wp2_with (refine wpList_store1 rfl 4 _ _ rfl (bs) 7 (.bool true) rfl rfl HS45.out (Nat.le_of_ble_eq_true rfl) sz_bool rfl rfl ?_)
           refine Named.mk (fun w46 hW46=>?_)
           have hRr:=HQ.out
           clear HQ 
           obtain ⟨L46,hL46⟩:∃ L:List Value,L=[.bool true]:=⟨_,rfl⟩
           rw [← hL46] at hW46
           have HP46:Hid (Par w46 p vl E (j2 + 1 + 1)):=by rw [hW46];exact Par.setR (by omega) L46 7 HP45.out
           have HF46:Hid (F2 p bs w w46):=by rw [hW46];exact F2.setR L46 7 HF45.out
           have hb46:=HS45.out.stored hW46 (by rw [hL46];exact Nat.le_of_ble_eq_true rfl)
           rw [hL46] at hb46
           have HS46:=Lib.hid hb46
           clear hb46
           have hb46:=HVr45.out.up (Keep.setR (b:=bs) (by show ¬ _;omega) L46 7)
           rw [← hW46] at hb46
           have HVr46:=Lib.hid hb46
           clear hb46
           clear hW46 hL46 HP45 HF45 HS45 HVr45
           have hszQ:w.heap.size ≤ w46.heap.size:=HF46.out.size
           have HC':=messageArgFn f (fun k=>arg E f k) _ _ _ HP46.out (oneArg (exprOk E f)) (fun i a k h=>Nat.le_of_lt ((advE E f).arg h)) (fun h=>by rw [h] at hRr;exact HNE.out hRr.symm)
           have HCx:=Lib.hid HC'
           clear HC'
           have HQ:=Lib.hid hRr
           clear hRr
           go_wp2_with (fail)
           have hRr:=HQ.out
           clear HQ
           have HC':=HCx.out
           clear HCx
           cases h1:message E (arg E f) f (j2 + 2) with
           | out=>exact absurd h1 (fun h=>by rw [h] at hRr;exact HNE.out hRr.symm)
           | bad c a=>
            rw [h1] at HC' hRr
            refine HC'.mono ?_
            rintro e wz ⟨rfl,hF⟩
            rw [← (show _=_ from hRr)]
            exact ⟨rfl,rfl,HF46.out.trans hF⟩
           | ok l j5=>
            rw [h1] at HC' hRr
            have HC:=Lib.hid HC'
            clear h1 HC' 
            try simp only [bd_ok] at hRr
            refine (HC.out).mono ?_
            rintro e w47 ⟨vw47,rfl,hv,hPq,hFq⟩
            have HP47:=Lib.hid hPq
            have HF47:=Lib.hid (HF46.out.trans hFq)
            have HS47:=Lib.hid (HS46.out.fp hFq (by omega))
            have HVr47:=Lib.hid (HVr46.out.up (Keep.of_fp hFq (by show ¬ _;omega)))
            clear HP46 HF46 HS46 HVr46
            clear hPq hFq HC
            obtain ⟨ff,hr,hf⟩:=hv
            obtain ⟨za,zc,hvf,_⟩:=hr.form
            subst hvf
            have HVm47:=Lib.hid (ArgsV.mono (Q:=From w.heap.size) (show ArgsV _ _ _ _ from ⟨ff,hr,hf⟩) (fun k hk hs=>by have h:_ ≤ k:=hk;show _ ≤ k;omega))
            clear hr hf
            have HQ:=Lib.hid hRr
            clear hRr
            go_wp2_with (refine wpList_store1 rfl 39 _ _ rfl (bs) 21 (.slice za l.length zc) rfl rfl HS47.out (Nat.le_of_ble_eq_true rfl) sz_Args rfl rfl ?_)
            refine Named.mk (fun w48 hW48=>?_)
            have hRr:=HQ.out
            clear HQ 
            obtain ⟨L48,hL48⟩:∃ L:List Value,L=[.slice za l.length zc]:=⟨_,rfl⟩
            rw [← hL48] at hW48
            have HP48:Hid (Par w48 p vl E (j5)):=by rw [hW48];exact Par.setR (by omega) L48 21 HP47.out
            have HF48:Hid (F2 p bs w w48):=by rw [hW48];exact F2.setR L48 21 HF47.out
            have hb48:=HS47.out.stored hW48 (by rw [hL48];exact Nat.le_of_ble_eq_true rfl)
            rw [hL48] at hb48
            have HS48:=Lib.hid hb48
            clear hb48
            have hb48:=HVr47.out.up (Keep.setR (b:=bs) (by show ¬ _;omega) L48 21)
            rw [← hW48] at hb48
            have HVr48:=Lib.hid hb48
            clear hb48
            have hb48:=HVm47.out.up (Keep.setR (b:=bs) (by show ¬ _;omega) L48 21)
            rw [← hW48] at hb48
            have HVm48:=Lib.hid hb48
            clear hb48
            clear hW48 hL48 HP47 HF47 HS47 HVr47 HVm47
            have y50:=HS48.out.cell
            have y51:=HS48.out.free
            have HC':=needFn HP48.out [62]
            have HCx:=Lib.hid HC'
            clear HC'
            have HQ:=Lib.hid hRr
            clear hRr
            go_wp2_with (fail)
            clear y50 y51
            have hRr:=HQ.out
            clear HQ
            have HC':=HCx.out
            clear HCx
            cases h1:need E [62] j5 with
            | out=>exact absurd h1 need_ne
            | bad c a=>
             rw [h1] at HC' hRr
             refine HC'.mono ?_
             rintro e wz ⟨rfl,hF⟩
             rw [← (show _=_ from hRr)]
             exact ⟨rfl,rfl,HF48.out.trans hF⟩
            | ok u j7=>
             rw [h1] at HC' hRr
             have HC:=Lib.hid HC'
             clear h1 HC' 
             try simp only [bd_ok] at hRr
             refine (HC.out).mono ?_
             rintro e w49 ⟨vw49,rfl,hv,hPq,hFq⟩
             have HP49:=Lib.hid hPq
             have HF49:=Lib.hid (HF48.out.trans hFq)
             have HS49:=Lib.hid (HS48.out.fp hFq (by omega))
             have HVr49:=Lib.hid (HVr48.out.up (Keep.of_fp hFq (by show ¬ _;omega)))
             have HVm49:=Lib.hid (HVm48.out.up (Keep.of_fp hFq (by show ¬ _;omega)))
             clear HP48 HF48 HS48 HVr48 HVm48
             clear hPq hFq HC
             obtain rfl:=hv
             have HZ:=Lib.hid hRr
             clear hRr hmf
             go_wp2
             refine bodyPost_ret (v:=.tuple #[]) (by simp [results,Tryz.results172,go_sem]) rfl ?_
             rw [← HZ.out]
             exact ⟨rfl,_,rfl,HS49.out,StmF.of HVr49.out AstF.zero AstsV.nil HVm49.out DvsV.nil opts_nil stms_nil,HP49.out,HF49.out⟩
          | false=>
           rw [if_neg (by rw [hs];decide)] at hRr
           have HT:=Lib.hid (takes_no HP44.out [[60]] HL.out (by simp) hs)
           clear hs HL
           have HQ:=Lib.hid hRr
           clear hRr
           go_wp2_with (fail)
           have hRr:=HQ.out
           clear HQ
           refine (HT.out).mono ?_
           rintro e w45 ⟨rfl,hbq⟩
           have HP45:=Lib.hid (HP44.out.belowAll hbq)
           have HF45:=Lib.hid (HF44.out.bel hbq)
           have HS45:=Lib.hid (HS44.out.belowAll hbq)
           have HVr45:=Lib.hid (HVr44.out.up (Keep.below hbq))
           clear HP44 HF44 HS44 HVr44
           clear hbq HT
           have HQ:=Lib.hid hRr
           clear hRr
           go_wp2_with (refine wpList_store1 rfl 4 _ _ rfl (bs) 7 (.bool false) rfl rfl HS45.out (Nat.le_of_ble_eq_true rfl) sz_bool rfl rfl ?_)
           refine Named.mk (fun w52 hW52=>?_)
           have hRr:=HQ.out
           clear HQ 
           obtain ⟨L52,hL52⟩:∃ L:List Value,L=[.bool false]:=⟨_,rfl⟩
           rw [← hL52] at hW52
           have HP52:Hid (Par w52 p vl E (j2 + 1)):=by rw [hW52];exact Par.setR (by omega) L52 7 HP45.out
           have HF52:Hid (F2 p bs w w52):=by rw [hW52];exact F2.setR L52 7 HF45.out
           have hb52:=HS45.out.stored hW52 (by rw [hL52];exact Nat.le_of_ble_eq_true rfl)
           rw [hL52] at hb52
           have HS52:=Lib.hid hb52
           clear hb52
           have hb52:=HVr45.out.up (Keep.setR (b:=bs) (by show ¬ _;omega) L52 7)
           rw [← hW52] at hb52
           have HVr52:=Lib.hid hb52
           clear hb52
           clear hW52 hL52 HP45 HF45 HS45 HVr45
           have hszQ:w.heap.size ≤ w52.heap.size:=HF52.out.size
           have HC':=messageArgFn f (fun k=>arg E f k) _ _ _ HP52.out (oneArg (exprOk E f)) (fun i a k h=>Nat.le_of_lt ((advE E f).arg h)) (fun h=>by rw [h] at hRr;exact HNE.out hRr.symm)
           have HCx:=Lib.hid HC'
           clear HC'
           have HQ:=Lib.hid hRr
           clear hRr
           go_wp2_with (fail)
           have hRr:=HQ.out
           clear HQ
           have HC':=HCx.out
           clear HCx
           cases h1:message E (arg E f) f (j2 + 1) with
           | out=>exact absurd h1 (fun h=>by rw [h] at hRr;exact HNE.out hRr.symm)
           | bad c a=>
            rw [h1] at HC' hRr
            refine HC'.mono ?_
            rintro e wz ⟨rfl,hF⟩
            rw [← (show _=_ from hRr)]
            exact ⟨rfl,rfl,HF52.out.trans hF⟩
           | ok l j5=>
            rw [h1] at HC' hRr
            have HC:=Lib.hid HC'
            clear h1 HC' 
            try simp only [bd_ok] at hRr
            refine (HC.out).mono ?_
            rintro e w53 ⟨vw53,rfl,hv,hPq,hFq⟩
            have HP53:=Lib.hid hPq
            have HF53:=Lib.hid (HF52.out.trans hFq)
            have HS53:=Lib.hid (HS52.out.fp hFq (by omega))
            have HVr53:=Lib.hid (HVr52.out.up (Keep.of_fp hFq (by show ¬ _;omega)))
            clear HP52 HF52 HS52 HVr52
            clear hPq hFq HC
            obtain ⟨ff,hr,hf⟩:=hv
            obtain ⟨za,zc,hvf,_⟩:=hr.form
            subst hvf
            have HVm53:=Lib.hid (ArgsV.mono (Q:=From w.heap.size) (show ArgsV _ _ _ _ from ⟨ff,hr,hf⟩) (fun k hk hs=>by have h:_ ≤ k:=hk;show _ ≤ k;omega))
            clear hr hf
            have HQ:=Lib.hid hRr
            clear hRr
            go_wp2_with (refine wpList_store1 rfl 39 _ _ rfl (bs) 21 (.slice za l.length zc) rfl rfl HS53.out (Nat.le_of_ble_eq_true rfl) sz_Args rfl rfl ?_)
            refine Named.mk (fun w54 hW54=>?_)
            have hRr:=HQ.out
            clear HQ 
            obtain ⟨L54,hL54⟩:∃ L:List Value,L=[.slice za l.length zc]:=⟨_,rfl⟩
            rw [← hL54] at hW54
            have HP54:Hid (Par w54 p vl E (j5)):=by rw [hW54];exact Par.setR (by omega) L54 21 HP53.out
            have HF54:Hid (F2 p bs w w54):=by rw [hW54];exact F2.setR L54 21 HF53.out
            have hb54:=HS53.out.stored hW54 (by rw [hL54];exact Nat.le_of_ble_eq_true rfl)
            rw [hL54] at hb54
            have HS54:=Lib.hid hb54
            clear hb54
            have hb54:=HVr53.out.up (Keep.setR (b:=bs) (by show ¬ _;omega) L54 21)
            rw [← hW54] at hb54
            have HVr54:=Lib.hid hb54
            clear hb54
            have hb54:=HVm53.out.up (Keep.setR (b:=bs) (by show ¬ _;omega) L54 21)
            rw [← hW54] at hb54
            have HVm54:=Lib.hid hb54
            clear hb54
            clear hW54 hL54 HP53 HF53 HS53 HVr53 HVm53
            have y55:=HS54.out.cell
            have y56:=HS54.out.free
            have HZ:=Lib.hid hRr
            clear hRr hmf
            go_wp2
            refine bodyPost_ret (v:=.tuple #[]) (by simp [results,Tryz.results172,go_sem]) rfl ?_
            rw [← HZ.out]
            exact ⟨rfl,_,rfl,HS54.out,StmF.of HVr54.out AstF.zero AstsV.nil HVm54.out DvsV.nil opts_nil stms_nil,HP54.out,HF54.out⟩
        | false=>
         have hsx:=hs
         have hT:=sees0 HP35.out [[63],[63,63]] HL.out (by simp)
         rw [hs] at hT
         have HT:=Lib.hid hT
         clear hT HL
         have HQ:=Lib.hid hRr
         clear hRr
         go_wp2_with (fail)
         have hRr:=HQ.out
         clear HQ
         refine (HT.out).mono ?_
         rintro e w36 ⟨rfl,hbq⟩
         have HP36:=Lib.hid (HP35.out.belowAll hbq)
         have HF36:=Lib.hid (HF35.out.bel hbq)
         have HS36:=Lib.hid (HS35.out.belowAll hbq)
         have HVr36:=Lib.hid (HVr35.out.up (Keep.below hbq))
         clear HP35 HF35 HS35 HVr35
         clear hbq HT
         rw [if_neg (by rw [hsx];simp)] at hRr
         clear hsx
         have HZ:=Lib.hid hRr
         clear hRr
         go_wp2_with (fail)
         go_meet
         case rel=>exact ⟨rfl,_,_,_,_,HZ.out,HS36,HP36,HF36⟩
  | false=>
   have hk:¬ kindAt E i=1:=of_decide_eq_false hk0
   clear hk0
   rw [if_neg hk] at hRr
   have HZ:=Lib.hid hRr
   clear hRr
   go_wp2_with (fail)
   go_meet
   case rel=>exact ⟨rfl,_,_,_,_,HZ.out,HSw2,HPw2,HFw2⟩
 case rest=>
  obtain ⟨rfl,x1,x2,x3,j,HZ0,HSc,HPc,HFc⟩:=hcut
  have hRr:=HZ0.out
  clear HZ0 HQ HQ0 HPw2 HFw2 HSw2
  obtain ⟨c0,c1,c2,f2⟩:=HPc.out.cells
  have HQ:=Lib.hid hRr
  clear hRr
  go_wp2_with (refine wpList_store1 rfl 3 _ _ rfl p 2 (.int .i64 (i:Int)) rfl rfl HPc.out.at_ (by simp) sz_int rfl rfl ?_)
  refine Named.mk (fun w57 hW57=>?_)
  have hRr:=HQ.out
  clear HQ c0 c1 c2 f2 
  have hPy:Par (setR wc p 2 [(.int .i64 (i:Int))]) p vl E (i):=HPc.out.set (j:=i) HLE.out
  have hFy:F2 p bs w (setR wc p 2 [(.int .i64 (i:Int))]):=HFc.out.setp 2 (.int .i64 (i:Int))
  have hyS:=Holds.farR (b':=p) (by omega) [(.int .i64 (i:Int))] 2 HSc.out
  rw [← hW57] at hPy hFy hyS
  have HP57:=Lib.hid hPy
  have HF57:=Lib.hid hFy
  have HS57:=Lib.hid hyS
  clear hW57 hPy hFy hyS HPc HFc HSc
  have HQ:=Lib.hid hRr
  clear hRr
  go_wp2_with (refine wpList_storeB rfl 38 _ _ rfl (bs) 8 [.slice none 0 0,.slice none 0 0,.slice none 0 0] rfl rfl HS57.out (Nat.le_of_ble_eq_true rfl) sz_Ref (by simp [Value.oneCell']) ?_)
  refine Named.mk (fun w58 hW58=>?_)
  have hRr:=HQ.out
  clear HQ 
  obtain ⟨L58,hL58⟩:∃ L:List Value,L=[.slice none 0 0,.slice none 0 0,.slice none 0 0]:=⟨_,rfl⟩
  rw [← hL58] at hW58
  have HP58:Hid (Par w58 p vl E (i)):=by rw [hW58];exact Par.setR (by omega) L58 8 HP57.out
  have HF58:Hid (F2 p bs w w58):=by rw [hW58];exact F2.setR L58 8 HF57.out
  have hb58:=HS57.out.stored hW58 (by rw [hL58];exact Nat.le_of_ble_eq_true rfl)
  rw [hL58] at hb58
  have HS58:=Lib.hid hb58
  clear hb58
  clear hW58 hL58 HP57 HF57 HS57
  have hszQ:w.heap.size ≤ w58.heap.size:=HF58.out.size
  have HC':=(exprOk E f).expr (lvl:=0) HP58.out (by omega) (fun h=>by rw [h] at hRr;exact HNE.out hRr.symm)
  have HCx:=Lib.hid HC'
  clear HC'
  have HQ:=Lib.hid hRr
  clear hRr
  go_wp2_with (fail)
  have hRr:=HQ.out
  clear HQ
  have HC':=HCx.out
  clear HCx
  cases h1:expr E f 0 i with
  | out=>exact absurd h1 (fun h=>by rw [h] at hRr;exact HNE.out hRr.symm)
  | bad c a=>
   rw [h1] at HC' hRr
   refine HC'.mono ?_
   rintro e wz ⟨rfl,hF⟩
   rw [← (show _=_ from hRr)]
   exact ⟨rfl,rfl,HF58.out.trans hF⟩
  | ok e j3=>
   rw [h1] at HC' hRr
   have HC:=Lib.hid HC'
   clear h1 HC' 
   try simp only [bd_ok] at hRr
   refine (HC.out).mono ?_
   rintro e w59 ⟨vw59,rfl,⟨vn,vi,vh,vk,va,rfl,hve⟩,hPq,hFq⟩
   obtain ⟨ea1,en1,ec1,ea2,en2,ec2,ea3,en3,ec3,ea4,en4,ec4,ea5,en5,ec5,rfl,rfl,rfl,rfl,rfl⟩:=hve.forms
   unfold Ast.val
   have HP59:=Lib.hid hPq
   have HF59:=Lib.hid (HF58.out.trans hFq)
   have HS59:=Lib.hid (HS58.out.fp hFq (by omega))
   clear HP58 HF58 HS58
   clear hPq hFq HC
   have HVe59:=Lib.hid hve
   clear hve
   have hv3:=HVe59.out.mono (Q:=From w.heap.size) (fun k hk hs=>by have h:_ ≤ k:=hk;show _ ≤ k;omega)
   clear HVe59
   have HVe59:=Lib.hid hv3
   clear hv3
   have HQ:=Lib.hid hRr
   clear hRr
   go_wp2_with (refine wpList_store1 rfl 3 _ _ rfl (bs) 0 (.int .i64 2) rfl rfl HS59.out (Nat.le_of_ble_eq_true rfl) sz_int rfl rfl ?_)
   refine Named.mk (fun w60 hW60=>?_)
   have hRr:=HQ.out
   clear HQ 
   obtain ⟨L60,hL60⟩:∃ L:List Value,L=[.int .i64 2]:=⟨_,rfl⟩
   rw [← hL60] at hW60
   have HP60:Hid (Par w60 p vl E (j3)):=by rw [hW60];exact Par.setR (by omega) L60 0 HP59.out
   have HF60:Hid (F2 p bs w w60):=by rw [hW60];exact F2.setR L60 0 HF59.out
   have hb60:=HS59.out.stored hW60 (by rw [hL60];exact Nat.le_of_ble_eq_true rfl)
   rw [hL60] at hb60
   have HS60:=Lib.hid hb60
   clear hb60
   have hb60:=HVe59.out.up (Keep.setR (b:=bs) (by show ¬ _;omega) L60 0)
   rw [← hW60] at hb60
   have HVe60:=Lib.hid hb60
   clear hb60
   clear hW60 hL60 HP59 HF59 HS59 HVe59
   have HQ:=Lib.hid hRr
   clear hRr
   go_wp2_with (refine wpList_storeB rfl 41 _ _ rfl (bs) 11 [.int .i64 (e.kind:Int),.int .i64 e.n,.string ⟨e.name.toArray⟩,.string ⟨e.label.toArray⟩,.slice ea1 en1 ec1,.slice ea2 en2 ec2,.slice ea3 en3 ec3,.slice ea4 en4 ec4,.slice ea5 en5 ec5] rfl rfl HS60.out (Nat.le_of_ble_eq_true rfl) sz_Ast (by simp [Value.oneCell']) ?_)
   refine Named.mk (fun w61 hW61=>?_)
   have hRr:=HQ.out
   clear HQ 
   obtain ⟨L61,hL61⟩:∃ L:List Value,L=[.int .i64 (e.kind:Int),.int .i64 e.n,.string ⟨e.name.toArray⟩,.string ⟨e.label.toArray⟩,.slice ea1 en1 ec1,.slice ea2 en2 ec2,.slice ea3 en3 ec3,.slice ea4 en4 ec4,.slice ea5 en5 ec5]:=⟨_,rfl⟩
   rw [← hL61] at hW61
   have HP61:Hid (Par w61 p vl E (j3)):=by rw [hW61];exact Par.setR (by omega) L61 11 HP60.out
   have HF61:Hid (F2 p bs w w61):=by rw [hW61];exact F2.setR L61 11 HF60.out
   have hb61:=HS60.out.stored hW61 (by rw [hL61];exact Nat.le_of_ble_eq_true rfl)
   rw [hL61] at hb61
   have HS61:=Lib.hid hb61
   clear hb61
   have hb61:=HVe60.out.up (Keep.setR (b:=bs) (by show ¬ _;omega) L61 11)
   rw [← hW61] at hb61
   have HVe61:=Lib.hid hb61
   clear hb61
   clear hW61 hL61 HP60 HF60 HS60 HVe60
   have HZ:=Lib.hid hRr
   clear hRr hmf
   go_wp2
   refine bodyPost_ret (v:=.tuple #[]) (by simp [results,Tryz.results172,go_sem]) rfl ?_
   rw [← HZ.out]
   exact ⟨rfl,_,rfl,HS61.out,StmF.of RfF.zero HVe61.out AstsV.nil ArgsV.nil DvsV.nil opts_nil stms_nil,HP61.out,HF61.out⟩
end Go.Proofs.YtpoghableadkcaaGreatDoor
